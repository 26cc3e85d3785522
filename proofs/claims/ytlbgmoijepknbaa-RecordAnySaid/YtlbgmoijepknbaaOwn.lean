/- Contracts of the statements' own codec of uint64, and compositions of it that are invalid. -/
import Derived.Test.YtlbgmoijepknbaaNilB
import Derived.Test.YtlbgmoijepknbaaPairE
import Derived.Test.YtlbgmoijepknbaaZ
import Derived.Test.YtlbgmoijepknbaaNameE
namespace Go.Proofs.Ytlbgmoijepknbaa
open Go.RowKit
set_option linter.unusedVariables false

def ownW (a : Int) : Int := if 1 ≤ a ∧ a ≤ 4096 then a else 0
theorem ownW_range (a : Int) : 0 ≤ ownW a ∧ ownW a ≤ 4096 := by unfold ownW; split <;> omega
/-- The own codec of a words. -/
def ownC (a : Int) : Value := .iface 47 (.agg #[.int .i64 a])

set_option maxHeartbeats 400000 in
theorem ownWords (w : World) (a : Int) :
    Calls Try.prog 107 #[.agg #[.int .i64 a]] w fun e w' => e = .returned (.int .i64 a) ∧ Below w.heap.size w w' := by
  go_enter Try.func107, Try.ntmps107
  go_wp2
  go_ret
  exact ⟨rfl, (by repeat (first | with_reducible exact Below.refl _ _ | with_reducible refine bl_alloc ?_ _ | with_reducible refine bl_drew ?_ | with_reducible refine bl_drewN ?_ _ | with_reducible refine bl_bx ?_ _ | with_reducible exact BX.below _ | with_reducible refine bl_set ?_ (by first | (exact Nat.le_refl _) | (simp; done) | (simp; omega)) _ | assumption))⟩

set_option maxHeartbeats 400000 in
theorem sizeU_own (a : Int) : SizeU (ownC a) (ownW a) := by
  intro w
  unfold ownC
  by_cases h1 : 1 ≤ a
  · by_cases h2 : a ≤ 4096
    · have HE : Hid (ownW a = a) := by show _ = _; exact if_pos ⟨h1, h2⟩
      go_enter Try.func64, Try.ntmps64
      go_wp2_with (go_at_call 107; refine (ownWords _ _).mono ?_; rintro e w' ⟨rfl, hb⟩)
      go_ret
      exact ⟨ret_int HE.out.symm, hb⟩
    · have HE : Hid (ownW a = 0) := by show _ = _; exact if_neg (by omega)
      go_enter Try.func64, Try.ntmps64
      go_wp2_with (go_at_call 107; refine (ownWords _ _).mono ?_; rintro e w' ⟨rfl, hb⟩)
      go_ret
      exact ⟨ret_int HE.out.symm, hb⟩
  · have HE : Hid (ownW a = 0) := by show _ = _; exact if_neg (by omega)
    go_enter Try.func64, Try.ntmps64
    go_wp2_with (go_at_call 107; refine (ownWords _ _).mono ?_; rintro e w' ⟨rfl, hb⟩)
    go_ret
    exact ⟨ret_int HE.out.symm, hb⟩

theorem Rd.cellG {k : IntKind} {w : World} {g off : Nat} {ws : List Int} (h : Rd k w (some ⟨g, off, none⟩) ws) {j : Nat} (hj : j < ws.length) : w.cell? ⟨g, off + j, none⟩ = some (.int k (ws[j]?.getD 0)) := by
  obtain ⟨b, o, hA, _, hc⟩ := h.at_ hj
  injection hA with hA
  injection hA with hA hA'
  subst hA hA'
  rw [hc, List.getElem?_eq_getElem hj]; rfl
/-- The words of a value. -/
def ownE (v : Int) (a : Nat) : List Int := (List.replicate a 0).set 0 v
theorem length_ownE (v : Int) (a : Nat) : (ownE v a).length = a := by simp [ownE]
theorem splice_own (xs : List Int) (off a : Nat) (v : Int) (ha : 1 ≤ a) (ho : off + a ≤ xs.length) : (splice xs off (List.replicate a 0)).set off v = splice xs off (ownE v a) := by
  unfold splice ownE
  have h1 : (xs.take off).length = off := by simp; omega
  rw [List.set_append_right _ _ (by omega), h1, Nat.sub_self, List.set_append_left _ _ (by simp; omega)]
  simp

set_option maxRecDepth 100000 in
set_option maxHeartbeats 1000000 in
theorem ownEncode_ok (w : World) (a : Nat) (ha : 1 ≤ a) (v : Int) (hv : v ≤ 9) (g off c : Nat) (xs : List Int) (hb : IB .u64 26 w g xs) (ho : off + a ≤ xs.length) (hc : a ≤ c) :
    Calls Try.prog 106 #[.agg #[.int .i64 (a : Int)], .int .u64 v, .slice (some ⟨g, off, none⟩) a c] w fun e w' => EncPost w (some (ownE v a)) g off xs e w' := by
  have HB := Lib.hid hb
  have hgl := hb.lt
  clear hb
  have e1 : ((a : Int) == 0) = false := by simp; omega
  have e2 : ((a : Int) != (a : Int)) = false := by simp
  have e3 : ¬ v > 9 := by omega
  have e4 : ¬ a = 0 := by omega
  go_enter Try.func106, Try.ntmps106
  go_wp2
  obtain ⟨w1, hr1, hI1, hC1⟩ := run_clear_ints (P := Try.prog) (w.alloc (.cells #[.int .i64 (a : Int)] 47)) 31 0 26 .u64 26 Try.underlying31 (zero_u64 _) g off a c xs (HB.out.alloc _) (by omega) ho
  rw [hr1]
  have hlen1 : (splice xs off (List.replicate a (0 : Int))).length = xs.length := length_splice _ _ _ (by simpa using ho)
  obtain ⟨v0, hc0⟩ : ∃ v0, w1.cell? ⟨g, off, none⟩ = some (.int .u64 v0) := ⟨_, hI1.cell (i := off) (by rw [hlen1]; omega)⟩
  have hf0 := hI1.frozen off
  have hg1 := hI1.lt
  have hI2 := hI1.set off v
  rw [splice_own xs off a v ha ho] at hI2
  have HI2 := Lib.hid hI2
  have HCC := Lib.hid (((Ch.of_below (S := At g) (bl_alloc (a := w) (Below.refl _ _) (.cells #[.int .i64 (a : Int)] 47))).trans hC1 (fun _ h _ => h)).set1 off (.int .u64 v))
  clear hr1 hI1 hC1 hlen1 hI2
  go_wp2
  go_ret
  exact ⟨rfl, HI2.out, HCC.out⟩

set_option maxRecDepth 100000 in
set_option maxHeartbeats 1000000 in
theorem ownEncode_bad (w : World) (a : Nat) (ha : 1 ≤ a) (v : Int) (hv : 9 < v) (A : Option Addr) (c : Nat) :
    Calls Try.prog 106 #[.agg #[.int .i64 (a : Int)], .int .u64 v, .slice A a c] w fun e w' => e = .returned (.bool false) ∧ Below w.heap.size w w' := by
  have e1 : ((a : Int) == 0) = false := by simp; omega
  have e2 : ((a : Int) != (a : Int)) = false := by simp
  have e3 : v > 9 := hv
  have e4 : ¬ a = 0 := by omega
  go_enter Try.func106, Try.ntmps106
  go_wp2
  go_ret
  exact ⟨rfl, (by repeat (first | with_reducible exact Below.refl _ _ | with_reducible refine bl_alloc ?_ _ | with_reducible refine bl_drew ?_ | with_reducible refine bl_drewN ?_ _ | with_reducible refine bl_bx ?_ _ | with_reducible exact BX.below _ | with_reducible refine bl_set ?_ (by first | (exact Nat.le_refl _) | (simp; done) | (simp; omega)) _ | assumption))⟩

theorem ownEncode_n (w : World) (a n : Nat) (hn : n = a) (ha : 1 ≤ a) (v : Int) (hv : v ≤ 9) (g off c : Nat) (xs : List Int) (hb : IB .u64 26 w g xs) (ho : off + a ≤ xs.length) (hc : a ≤ c) :
    Calls Try.prog 106 #[.agg #[.int .i64 (a : Int)], .int .u64 v, .slice (some ⟨g, off, none⟩) n c] w fun e w' => EncPost w (some (ownE v a)) g off xs e w' := by
  subst hn; exact ownEncode_ok w n ha v hv g off c xs hb ho hc
theorem ownEncode_bad_n (w : World) (a n : Nat) (hn : n = a) (ha : 1 ≤ a) (v : Int) (hv : 9 < v) (A : Option Addr) (c : Nat) :
    Calls Try.prog 106 #[.agg #[.int .i64 (a : Int)], .int .u64 v, .slice A n c] w fun e w' => e = .returned (.bool false) ∧ Below w.heap.size w w' := by
  subst hn; exact ownEncode_bad w n ha v hv A c

set_option maxRecDepth 100000 in
set_option maxHeartbeats 1000000 in
theorem ownDecode_ok (w : World) (a : Nat) (ha : 1 ≤ a) (ha2 : a ≤ 4096) (v : Int) (hv : v ≤ 9) (g off c : Nat) (hR : Rd .u64 w (some ⟨g, off, none⟩) (ownE v a)) (hg : g < w.heap.size) (hc : a ≤ c) :
    Calls Try.prog 105 #[.agg #[.int .i64 (a : Int)], .slice (some ⟨g, off, none⟩) a c] w fun e w' => e = .returned (.tuple #[.int .u64 v, .bool true]) ∧ Below w.heap.size w w' := by
  have e1 : ((a : Int) == 0) = false := by simp; omega
  have e2 : ((a : Int) != (a : Int)) = false := by simp
  have e3 : ¬ v > 9 := by omega
  have e4 : ¬ a = 0 := by omega
  have h0 : w.cell? ⟨g, off, none⟩ = some (.int .u64 v) := by
    refine (hR.cellG (j := 0) (by rw [length_ownE]; exact ha)).trans ?_
    congr 2
    obtain ⟨m, rfl⟩ : ∃ m, a = m + 1 := ⟨a - 1, by omega⟩
    simp [ownE, List.replicate_succ]
  have HZ : Hid (∀ j, 1 ≤ j → j < a → w.cell? ⟨g, off + j, none⟩ = some (.int .u64 0)) := fun j h1 h2 => by
    have := hR.cellG (j := j) (by rw [length_ownE]; exact h2)
    rw [this]
    congr 2
    unfold ownE
    rw [List.getElem?_set_ne (by omega), List.getElem?_replicate, if_pos h2]; rfl
  have hgn : ¬ g = w.heap.size := by omega
  have hg1 : g < w.heap.size + 1 := by omega
  have k0 : (w.alloc (.cells #[.int .i64 (a : Int)] 47)).cell? ⟨g, off, none⟩ = some (.int .u64 v) := (World.cell?_alloc_old _ _ ⟨g, off, none⟩ (show g ≠ _ from hgn)).trans h0
  clear hR h0
  by_cases hc1 : c = 1
  · subst hc1
    obtain rfl : a = 1 := by omega
    have k1 : (w.alloc (.cells #[.int .i64 1] 47)).cell? ⟨g, off, none⟩ = some (.int .u64 v) := k0
    clear k0 HZ
    go_enter Try.func105, Try.ntmps105
    go_wp2
    refine wp_loop_rounds 1 ?_
    rw [rounds_succ]
    go_wp2
    go_ret2
    exact ⟨rfl, (by repeat (first | with_reducible exact Below.refl _ _ | with_reducible refine bl_alloc ?_ _ | with_reducible refine bl_drew ?_ | with_reducible refine bl_drewN ?_ _ | with_reducible refine bl_bx ?_ _ | with_reducible exact BX.below _ | with_reducible refine bl_set ?_ (by first | (exact Nat.le_refl _) | (simp; done) | (simp; omega)) _ | assumption))⟩
  go_enter Try.func105, Try.ntmps105
  go_wp2
  go_loopw [27, 7, 28, 29, 30, 31, 32, 33] (fun i _ _ _ _ _ _ _ wr => ∃ k : Nat, k + 1 ≤ a ∧ i = .int .i64 k ∧ wr = w.alloc (.cells #[.int .i64 (a : Int)] 47)) (fun i _ _ _ _ _ _ _ _ => a - (intOf i).toNat)
  case atStart => exact ⟨0, by omega, rfl, rfl⟩
  case round =>
    obtain ⟨k, hk, rfl, rfl⟩ := hrel
    by_cases hlt : k + 1 < a
    · have hlt' : (k : Int) < ((a - 1 : Nat) : Int) := by omega
      have hlt2 : k < a - 1 := by omega
      have hz : (w.alloc (.cells #[.int .i64 (a : Int)] 47)).cell? ⟨g, off + 1 + k, none⟩ = some (.int .u64 0) := (World.cell?_alloc_old _ _ ⟨g, off + 1 + k, none⟩ (show g ≠ _ from hgn)).trans (by have := HZ.out (k + 1) (by omega) hlt; rwa [show off + 1 + k = off + (k + 1) by omega])
      go_wp2
      go_roundw
      case rel => exact ⟨k + 1, by omega, by go_num, by first | rfl | trivial⟩
      case measure => simp [intOf]; omega
    · have hlt' : ¬ (k : Int) < ((a - 1 : Nat) : Int) := by omega
      go_wp2
      go_ret2
      exact ⟨rfl, (by repeat (first | with_reducible exact Below.refl _ _ | with_reducible refine bl_alloc ?_ _ | with_reducible refine bl_drew ?_ | with_reducible refine bl_drewN ?_ _ | with_reducible refine bl_bx ?_ _ | with_reducible exact BX.below _ | with_reducible refine bl_set ?_ (by first | (exact Nat.le_refl _) | (simp; done) | (simp; omega)) _ | assumption))⟩

theorem ownDecode_n (w : World) (a n : Nat) (hn : n = a) (ha : 1 ≤ a) (ha2 : a ≤ 4096) (v : Int) (hv : v ≤ 9) (g off c : Nat) (hR : Rd .u64 w (some ⟨g, off, none⟩) (ownE v a)) (hg : g < w.heap.size) (hc : a ≤ c) :
    Calls Try.prog 105 #[.agg #[.int .i64 (a : Int)], .slice (some ⟨g, off, none⟩) n c] w fun e w' => e = .returned (.tuple #[.int .u64 v, .bool true]) ∧ Below w.heap.size w w' := by
  subst hn; exact ownDecode_ok w n ha ha2 v hv g off c hR hg hc

set_option maxRecDepth 100000 in
theorem pairUUEncode_bad (w : World) (c1 c2 v : Value) (A : Option Addr) (l cp : Nat) (x y : Int) (hw : ∀ w, Calls Try.prog 19 #[.agg #[c1, c2]] w fun e w' => e = .returned (.int .i64 0) ∧ Below w.heap.size w w') :
    Calls Try.prog 24 #[.agg #[c1, c2], .agg #[.int .u64 x, .int .u64 y], .slice A l cp] w fun e w' => e = .returned (.bool false) ∧ Below w.heap.size w w' := by
  have HS := Lib.hid hw
  clear hw
  go_enter Try.func24, Try.ntmps24
  go_wp2_with (go_at_call 19; refine (HS.out _).mono ?_; rintro e w' ⟨rfl, hb⟩; obtain ⟨x, rfl⟩ := bx_of hb; clear hb)
  go_ret
  exact ⟨rfl, (by repeat (first | with_reducible exact Below.refl _ _ | with_reducible refine bl_alloc ?_ _ | with_reducible refine bl_drew ?_ | with_reducible refine bl_drewN ?_ _ | with_reducible refine bl_bx ?_ _ | with_reducible exact BX.below _ | with_reducible refine bl_set ?_ (by first | (exact Nat.le_refl _) | (simp; done) | (simp; omega)) _ | assumption))⟩

set_option maxRecDepth 100000 in
theorem optUEncode_bad (w : World) (c : Value) (p : Option Addr) (A : Option Addr) (l cp : Nat) (hw : ∀ w, Calls Try.prog 21 #[.agg #[c]] w fun e w' => e = .returned (.int .i64 0) ∧ Below w.heap.size w w') :
    Calls Try.prog 26 #[.agg #[c], .pointer p, .slice A l cp] w fun e w' => e = .returned (.bool false) ∧ Below w.heap.size w w' := by
  have HS := Lib.hid hw
  clear hw
  go_enter Try.func26, Try.ntmps26
  go_wp2_with (go_at_call 21; refine (HS.out _).mono ?_; rintro e w' ⟨rfl, hb⟩; obtain ⟨x, rfl⟩ := bx_of hb; clear hb)
  go_ret
  exact ⟨rfl, (by repeat (first | with_reducible exact Below.refl _ _ | with_reducible refine bl_alloc ?_ _ | with_reducible refine bl_drew ?_ | with_reducible refine bl_drewN ?_ _ | with_reducible refine bl_bx ?_ _ | with_reducible exact BX.below _ | with_reducible refine bl_set ?_ (by first | (exact Nat.le_refl _) | (simp; done) | (simp; omega)) _ | assumption))⟩

set_option maxRecDepth 100000 in
theorem optUDecode_bad (w : World) (c : Value) (A : Option Addr) (l cp : Nat) (hw : ∀ w, Calls Try.prog 21 #[.agg #[c]] w fun e w' => e = .returned (.int .i64 0) ∧ Below w.heap.size w w') :
    Calls Try.prog 25 #[.agg #[c], .slice A l cp] w fun e w' => e = .returned (.tuple #[.pointer none, .bool false]) ∧ Below w.heap.size w w' := by
  have HS := Lib.hid hw
  clear hw
  go_enter Try.func25, Try.ntmps25
  go_wp2_with (go_at_call 21; refine (HS.out _).mono ?_; rintro e w' ⟨rfl, hb⟩; obtain ⟨x, rfl⟩ := bx_of hb; clear hb)
  go_ret2
  exact ⟨rfl, (by repeat (first | with_reducible exact Below.refl _ _ | with_reducible refine bl_alloc ?_ _ | with_reducible refine bl_drew ?_ | with_reducible refine bl_drewN ?_ _ | with_reducible refine bl_bx ?_ _ | with_reducible exact BX.below _ | with_reducible refine bl_set ?_ (by first | (exact Nat.le_refl _) | (simp; done) | (simp; omega)) _ | assumption))⟩

set_option maxRecDepth 100000 in
theorem planUU_bad (w : World) (off : Int) (c : Value) (x y : Int) (hs : ∀ w, Calls Try.prog 65 #[c] w fun e w' => e = .returned (.int .i64 0) ∧ Below w.heap.size w w') :
    Calls Try.prog 23 #[.int .u64 off, c, .agg #[.int .u64 x, .int .u64 y]] w fun e w' => e = .returned (.tuple #[.slice none 0 0, .int .i64 1]) ∧ Below w.heap.size w w' := by
  have HS := Lib.hid hs
  clear hs
  go_enter Try.func23, Try.ntmps23
  go_wp2_with (go_at_call 65; refine (HS.out _).mono ?_; rintro e w' ⟨rfl, hb⟩; obtain ⟨x, rfl⟩ := bx_of hb; clear hb)
  go_ret2
  exact ⟨rfl, (by repeat (first | with_reducible exact Below.refl _ _ | with_reducible refine bl_alloc ?_ _ | with_reducible refine bl_drew ?_ | with_reducible refine bl_drewN ?_ _ | with_reducible refine bl_bx ?_ _ | with_reducible exact BX.below _ | with_reducible refine bl_set ?_ (by first | (exact Nat.le_refl _) | (simp; done) | (simp; omega)) _ | assumption))⟩
end Go.Proofs.Ytlbgmoijepknbaa
