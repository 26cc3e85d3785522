/- Compositions without their parts: Read, Plan, Encode and Decode refuse. -/
import Derived.Test.YtlbgmoijepknbaaAnyW
namespace Go.Proofs.Ytlbgmoijepknbaa
open Go.RowKit
set_option linter.unusedVariables false
set_option linter.unusedSimpArgs false

@[go_sem] theorem m_PairUU_Words (w : World) (v : Value) : (method 325 51 v "Words").run Try.prog w = .ok (19, v) w := by kernel_rfl
@[go_sem] theorem m_PairUU_Encode (w : World) (v : Value) : (method 325 51 v "Encode").run Try.prog w = .ok (24, v) w := by kernel_rfl
@[go_sem] theorem m_PairUU_Decode (w : World) (v : Value) : (method 325 51 v "Decode").run Try.prog w = .ok (22, v) w := by kernel_rfl
@[go_sem] theorem m_OptU_Words (w : World) (v : Value) : (method 325 55 v "Words").run Try.prog w = .ok (21, v) w := by kernel_rfl
@[go_sem] theorem m_OptU_Encode (w : World) (v : Value) : (method 325 55 v "Encode").run Try.prog w = .ok (26, v) w := by kernel_rfl
@[go_sem] theorem m_OptU_Decode (w : World) (v : Value) : (method 325 55 v "Decode").run Try.prog w = .ok (25, v) w := by kernel_rfl

set_option maxRecDepth 100000 in
set_option maxHeartbeats 1000000 in
theorem sizeUU_any (w : World) (c : Value) (n : Int) (h : ∀ w, Calls Try.prog 19 #[c] w fun e w' => e = .returned (.int .i64 n) ∧ Below w.heap.size w w') (hn : 0 ≤ n ∧ n ≤ 4096) :
    Calls Try.prog 65 #[.iface 51 c] w fun e w' => e = .returned (.int .i64 n) ∧ Below w.heap.size w w' := by
  have H := Lib.hid h
  obtain ⟨a1, a2⟩ := hn
  clear h
  by_cases q : n = 0
  · subst q
    go_enter Try.func65, Try.ntmps65
    go_wp2_with (go_at_call 19; refine (H.out _).mono ?_; rintro e w' ⟨rfl, hb⟩)
    go_ret
    exact ⟨rfl, hb⟩
  · have q1 : 1 ≤ n := by omega
    clear q
    go_enter Try.func65, Try.ntmps65
    go_wp2_with (go_at_call 19; refine (H.out _).mono ?_; rintro e w' ⟨rfl, hb⟩)
    go_ret
    exact ⟨rfl, hb⟩
set_option maxRecDepth 100000 in
set_option maxHeartbeats 1000000 in
theorem sizePU_any (w : World) (c : Value) (n : Int) (h : ∀ w, Calls Try.prog 21 #[c] w fun e w' => e = .returned (.int .i64 n) ∧ Below w.heap.size w w') (hn : 0 ≤ n ∧ n ≤ 4096) :
    Calls Try.prog 73 #[.iface 55 c] w fun e w' => e = .returned (.int .i64 n) ∧ Below w.heap.size w w' := by
  have H := Lib.hid h
  obtain ⟨a1, a2⟩ := hn
  clear h
  by_cases q : n = 0
  · subst q
    go_enter Try.func73, Try.ntmps73
    go_wp2_with (go_at_call 21; refine (H.out _).mono ?_; rintro e w' ⟨rfl, hb⟩)
    go_ret
    exact ⟨rfl, hb⟩
  · have q1 : 1 ≤ n := by omega
    clear q
    go_enter Try.func73, Try.ntmps73
    go_wp2_with (go_at_call 21; refine (H.out _).mono ?_; rintro e w' ⟨rfl, hb⟩)
    go_ret
    exact ⟨rfl, hb⟩

set_option maxRecDepth 100000 in
theorem planPU_bad (w : World) (off : Int) (c p : Value) (hs : Calls Try.prog 73 #[c] w fun e w' => e = .returned (.int .i64 0) ∧ Below w.heap.size w w') :
    Calls Try.prog 55 #[.int .u64 off, c, p] w fun e w' => e = .returned (.tuple #[.slice none 0 0, .int .i64 1]) ∧ Below w.heap.size w w' := by
  have HS := Lib.hid hs
  clear hs
  go_enter Try.func55, Try.ntmps55
  go_wp2_with (go_at_call 73; refine HS.out.mono ?_; rintro e w' ⟨rfl, hb⟩; have HB := Lib.hid hb; clear hb)
  go_ret2
  exact ⟨rfl, HB.out⟩

set_option maxRecDepth 100000 in
theorem readUU_bad (w : World) (t : TypeId) (m : Value) (off : Int) (c : Value) (hs : ∀ w, Calls Try.prog 65 #[c] w fun e w' => e = .returned (.int .i64 0) ∧ Below w.heap.size w w') :
    Calls Try.prog 53 #[.iface t m, .int .u64 off, c] w fun e w' => e = .returned (.tuple #[.agg #[.int .u64 0, .int .u64 0], .int .i64 1]) ∧ Below w.heap.size w w' := by
  have HS := Lib.hid hs
  clear hs
  go_enter Try.func53, Try.ntmps53
  go_wp2_with (go_at_call 65; refine (HS.out _).mono ?_; rintro e w' ⟨rfl, hb⟩; obtain ⟨x, rfl⟩ := bx_of hb; clear hb)
  have hx : w.heap.size + 1 < x.w.heap.size := x.lt_size (by simp)
  have hx' : w.heap.size < x.w.heap.size := by omega
  have d0 : x.w.cell? ⟨w.heap.size, 0, none⟩ = some (.int .u64 0) := by go_simp
  have d1 : x.w.cell? ⟨w.heap.size, 1, none⟩ = some (.int .u64 0) := by go_simp
  have e0 := World.cell?_setCell_same x.w ⟨w.heap.size, 0, none⟩ (.int .u64 0) d0
  go_wp2
  refine bodyPost_ret (v := .tuple #[.agg #[.int .u64 0, .int .u64 0], .int .i64 1]) (by simp [results, Try.results53, go_sem, d0, d1, e0]) rfl ⟨rfl, (by repeat (first | with_reducible exact Below.refl _ _ | with_reducible refine bl_alloc ?_ _ | with_reducible refine bl_drew ?_ | with_reducible refine bl_drewN ?_ _ | with_reducible refine bl_bx ?_ _ | with_reducible exact BX.below _ | with_reducible refine bl_set ?_ (by first | (exact Nat.le_refl _) | (simp; done) | (simp; omega)) _ | assumption))⟩

set_option maxRecDepth 100000 in
theorem pairUUDecode_bad (w : World) (c1 c2 : Value) (A : Option Addr) (l cp : Nat) (hw : ∀ w, Calls Try.prog 19 #[.agg #[c1, c2]] w fun e w' => e = .returned (.int .i64 0) ∧ Below w.heap.size w w') :
    Calls Try.prog 22 #[.agg #[c1, c2], .slice A l cp] w fun e w' => e = .returned (.tuple #[.agg #[.int .u64 0, .int .u64 0], .bool false]) ∧ Below w.heap.size w w' := by
  have HS := Lib.hid hw
  clear hw
  go_enter Try.func22, Try.ntmps22
  go_wp2_with (go_at_call 19; refine (HS.out _).mono ?_; rintro e w' ⟨rfl, hb⟩; obtain ⟨x, rfl⟩ := bx_of hb; clear hb)
  have hx : w.heap.size + 3 < x.w.heap.size := x.lt_size (by simp)
  have hx0 : w.heap.size < x.w.heap.size := by omega
  have hx1 : w.heap.size + 1 < x.w.heap.size := by omega
  have hx2 : w.heap.size + 2 < x.w.heap.size := by omega
  have d0 : x.w.cell? ⟨w.heap.size + 1, 0, none⟩ = some (.int .u64 0) := by go_simp
  have d1 : x.w.cell? ⟨w.heap.size + 1, 1, none⟩ = some (.int .u64 0) := by go_simp
  have e0 := World.cell?_setCell_same x.w ⟨w.heap.size + 1, 0, none⟩ (.int .u64 0) d0
  go_wp2
  refine bodyPost_ret (v := .tuple #[.agg #[.int .u64 0, .int .u64 0], .bool false]) (by simp [results, Try.results22, go_sem, d0, d1, e0]) rfl ⟨rfl, (by repeat (first | with_reducible exact Below.refl _ _ | with_reducible refine bl_alloc ?_ _ | with_reducible refine bl_drew ?_ | with_reducible refine bl_drewN ?_ _ | with_reducible refine bl_bx ?_ _ | with_reducible exact BX.below _ | with_reducible refine bl_set ?_ (by first | (exact Nat.le_refl _) | (simp; done) | (simp; omega)) _ | assumption))⟩

set_option maxRecDepth 100000 in
theorem arrUDecode_bad (w : World) (c1 c2 : Value) (A : Option Addr) (l cp : Nat) (hw : ∀ w, Calls Try.prog 20 #[.agg #[c1, c2]] w fun e w' => e = .returned (.int .i64 0) ∧ Below w.heap.size w w') :
    Calls Try.prog 56 #[.agg #[c1, c2], .slice A l cp] w fun e w' => e = .returned (.tuple #[.slice none 0 0, .bool false]) ∧ Below w.heap.size w w' := by
  have HS := Lib.hid hw
  clear hw
  go_enter Try.func56, Try.ntmps56
  go_wp2_with (go_at_call 20; refine (HS.out _).mono ?_; rintro e w' ⟨rfl, hb⟩; obtain ⟨x, rfl⟩ := bx_of hb; clear hb)
  go_quiet (fail)
  go_wp2
  go_ret2
  exact ⟨rfl, (by repeat (first | with_reducible exact Below.refl _ _ | with_reducible refine bl_alloc ?_ _ | with_reducible refine bl_drew ?_ | with_reducible refine bl_drewN ?_ _ | with_reducible refine bl_bx ?_ _ | with_reducible exact BX.below _ | with_reducible refine bl_set ?_ (by first | (exact Nat.le_refl _) | (simp; done) | (simp; omega)) _ | assumption))⟩

set_option maxRecDepth 100000 in
theorem arrUEncode_bad (w : World) (c1 c2 : Value) (A B : Option Addr) (l cp l' cp' : Nat) (hw : ∀ w, Calls Try.prog 20 #[.agg #[c1, c2]] w fun e w' => e = .returned (.int .i64 0) ∧ Below w.heap.size w w') :
    Calls Try.prog 57 #[.agg #[c1, c2], .slice A l cp, .slice B l' cp'] w fun e w' => e = .returned (.bool false) ∧ Below w.heap.size w w' := by
  have HS := Lib.hid hw
  clear hw
  go_enter Try.func57, Try.ntmps57
  go_wp2_with (go_at_call 20; refine (HS.out _).mono ?_; rintro e w' ⟨rfl, hb⟩; obtain ⟨x, rfl⟩ := bx_of hb; clear hb)
  go_ret
  exact ⟨rfl, (by repeat (first | with_reducible exact Below.refl _ _ | with_reducible refine bl_alloc ?_ _ | with_reducible refine bl_drew ?_ | with_reducible refine bl_drewN ?_ _ | with_reducible refine bl_bx ?_ _ | with_reducible exact BX.below _ | with_reducible refine bl_set ?_ (by first | (exact Nat.le_refl _) | (simp; done) | (simp; omega)) _ | assumption))⟩
end Go.Proofs.Ytlbgmoijepknbaa
