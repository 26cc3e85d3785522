/- Contract of Decode of the reference of records. -/
import Derived.Test.YtlbgmoijepknbaaRefE
import Derived.Test.YtlbgmoijepknbaaPairV
import Derived.Test.YtlbgmoijepknbaaNames
namespace Go.Proofs.Ytlbgmoijepknbaa
open Go.RowKit
set_option linter.unusedVariables false

def UnPost (w : World) (r : Option (List Int)) (e : Ending) (w' : World) : Prop :=
  Below w.heap.size w w' ∧ match r with
  | some n => e = .returned (.tuple #[.string (strOf n), .bool true])
  | none => ∃ s, e = .returned (.tuple #[.string s, .bool false])
theorem refUnname_all (w : World) (g off c : Nat) (x0 x1 x2 : Int) (hg : g < w.heap.size) (h0 : w.cell? ⟨g, off, none⟩ = some (.int .u64 x0)) (hx0 : 0 ≤ x0) (hx1 : 0 ≤ x1) (hx2 : 0 ≤ x2) (hu1 : x1 < 18446744073709551616) (hu2 : x2 < 18446744073709551616)
    (h1 : w.cell? ⟨g, off + 1, none⟩ = some (.int .u64 x1)) (h2 : w.cell? ⟨g, off + 2, none⟩ = some (.int .u64 x2)) :
    Calls Try.prog 41 #[.slice (some ⟨g, off, none⟩) 3 c] w (UnPost w (nameDec x0 x1 x2)) := by
  by_cases h : 16 < x0
  · have e1 : nameDec x0 x1 x2 = none := if_pos h
    rw [e1]
    exact (refUnname_big w g off c x0 h0 h).mono fun _ _ ⟨he, hw⟩ => ⟨hw ▸ Below.refl _ _, _, he⟩
  · obtain ⟨n, rfl⟩ := Int.eq_ofNat_of_zero_le hx0
    have e1 := nameDec_eq n x1 x2 (by omega) hx1 hx2 hu1 hu2
    rw [e1]
    refine (refUnname_ok w g off c n x1 x2 hg h0 (by omega) hx1 hx2 hu1 hu2 h1 h2).mono fun _ _ ⟨he, hw⟩ => ⟨hw, ?_⟩
    cases hr : (rst x1 n 0 == 0 && rst x2 n 1 == 0)
    · rw [hr] at he; exact ⟨_, he⟩
    · rw [hr] at he; exact he

def RefDPost (w : World) (r : Option (Bool × List ByteArray × Option Int)) (e : Ending) (w' : World) : Prop :=
  Below w.heap.size w w' ∧ match r with
  | some (f, l, o) => ∃ A' c', e = .returned (.tuple #[.agg #[.bool f, .slice A' l.length c', .bool o.isSome, .int .i64 (o.getD 0)], .bool true]) ∧ RdV w' A' (strVals l) ∧ (∀ b, OwnB A' b → w.heap.size ≤ b)
  | none => e = .returned (.tuple #[.agg #[.bool false, .slice none 0 0, .bool false, .int .i64 0], .bool false])

set_option maxHeartbeats 400000 in
theorem refDecode_len (w : World) (A : Option Addr) (n c : Nat) (hn : n ≠ 10) :
    Calls Try.prog 49 #[.slice A n c] w (RefDPost w none) := by
  have h1 : ((n : Int) != 10) = true := by rw [bne_iff_ne]; omega
  go_enter Try.func49, Try.ntmps49
  go_wp2
  exact bodyPost_ret (v := .tuple #[.agg #[.bool false, .slice none 0 0, .bool false, .int .i64 0], .bool false]) (by simp [results, Try.results49, go_sem]) rfl ⟨(by repeat (first | with_reducible exact Below.refl _ _ | with_reducible refine bl_alloc ?_ _ | with_reducible refine bl_drew ?_ | with_reducible refine bl_drewN ?_ _ | with_reducible refine bl_bx ?_ _ | with_reducible exact BX.below _ | with_reducible refine bl_set ?_ (by first | (exact Nat.le_refl _) | (simp; done) | (simp; omega)) _ | assumption)), rfl⟩

/-- The first test of the reference. -/
def rdBad (x0 x1 x8 x9 : Int) : Prop := 1 < x0 ∨ 2 < x1 ∨ 1 < x8 ∨ (x8 = 0 ∧ x9 ≠ 0)
theorem decV_bad (ws : List Int) (hl : ws.length = 10) (h : rdBad (ws[0]?.getD 0) (ws[1]?.getD 0) (ws[8]?.getD 0) (ws[9]?.getD 0)) : decV ws = none := by
  have e1 : word0 ((ws.drop 1).take 7) = ws[1]?.getD 0 := by simp [word0]
  have e8 : (ws.drop 1)[7]?.getD 0 = ws[8]?.getD 0 := by simp
  have e9 : (ws.drop 1)[8]?.getD 0 = ws[9]?.getD 0 := by simp
  unfold decV decSI
  rw [e8, e9]
  by_cases h0 : 1 < word0 ws
  · rw [if_pos h0]
  · rw [if_neg h0]
    rcases h with h | h | h | h
    · exact absurd h h0
    · have : decS ((ws.drop 1).take 7) = none := by unfold decS; rw [e1, if_pos h]
      rw [this]
    · have : decO (ws[8]?.getD 0) (ws[9]?.getD 0) = none := by unfold decO; rw [if_pos h]
      rw [this]
      cases decS ((ws.drop 1).take 7) <;> rfl
    · have : decO (ws[8]?.getD 0) (ws[9]?.getD 0) = none := by unfold decO; rw [if_neg (by omega), if_pos h.1, if_neg h.2]
      rw [this]
      cases decS ((ws.drop 1).take 7) <;> rfl

set_option maxRecDepth 100000 in
set_option maxHeartbeats 1000000 in
theorem refDecode_bad (w : World) (g off c : Nat) (x0 x1 x8 x9 : Int) (h0 : w.cell? ⟨g, off, none⟩ = some (.int .u64 x0)) (h1 : w.cell? ⟨g, off + 1, none⟩ = some (.int .u64 x1)) (h8 : w.cell? ⟨g, off + 8, none⟩ = some (.int .u64 x8)) (h9 : w.cell? ⟨g, off + 9, none⟩ = some (.int .u64 x9)) (hg : g < w.heap.size)
    (h : rdBad x0 x1 x8 x9) : Calls Try.prog 49 #[.slice (some ⟨g, off, none⟩) 10 c] w (RefDPost w none) := by
  have hg0 : ¬ g = w.heap.size := by omega
  have hg1 : g < w.heap.size + 1 := by omega
  unfold rdBad at h
  by_cases a0 : 1 < x0
  · go_enter Try.func49, Try.ntmps49
    go_wp2
    exact bodyPost_ret (v := .tuple #[.agg #[.bool false, .slice none 0 0, .bool false, .int .i64 0], .bool false]) (by simp [results, Try.results49, go_sem]) rfl ⟨(by repeat (first | with_reducible exact Below.refl _ _ | with_reducible refine bl_alloc ?_ _ | with_reducible refine bl_drew ?_ | with_reducible refine bl_drewN ?_ _ | with_reducible refine bl_bx ?_ _ | with_reducible exact BX.below _ | with_reducible refine bl_set ?_ (by first | (exact Nat.le_refl _) | (simp; done) | (simp; omega)) _ | assumption)), rfl⟩
  · by_cases a1 : 2 < x1
    · go_enter Try.func49, Try.ntmps49
      go_wp2
      exact bodyPost_ret (v := .tuple #[.agg #[.bool false, .slice none 0 0, .bool false, .int .i64 0], .bool false]) (by simp [results, Try.results49, go_sem]) rfl ⟨(by repeat (first | with_reducible exact Below.refl _ _ | with_reducible refine bl_alloc ?_ _ | with_reducible refine bl_drew ?_ | with_reducible refine bl_drewN ?_ _ | with_reducible refine bl_bx ?_ _ | with_reducible exact BX.below _ | with_reducible refine bl_set ?_ (by first | (exact Nat.le_refl _) | (simp; done) | (simp; omega)) _ | assumption)), rfl⟩
    · by_cases a8 : 1 < x8
      · go_enter Try.func49, Try.ntmps49
        go_wp2
        exact bodyPost_ret (v := .tuple #[.agg #[.bool false, .slice none 0 0, .bool false, .int .i64 0], .bool false]) (by simp [results, Try.results49, go_sem]) rfl ⟨(by repeat (first | with_reducible exact Below.refl _ _ | with_reducible refine bl_alloc ?_ _ | with_reducible refine bl_drew ?_ | with_reducible refine bl_drewN ?_ _ | with_reducible refine bl_bx ?_ _ | with_reducible exact BX.below _ | with_reducible refine bl_set ?_ (by first | (exact Nat.le_refl _) | (simp; done) | (simp; omega)) _ | assumption)), rfl⟩
      · obtain ⟨rfl, a9⟩ : x8 = 0 ∧ x9 ≠ 0 := by
          rcases h with h | h | h | h
          · exact absurd h a0
          · exact absurd h a1
          · exact absurd h a8
          · exact h
        have b9 : (x9 != 0) = true := by rw [bne_iff_ne]; exact a9
        clear h a9
        go_enter Try.func49, Try.ntmps49
        go_wp2
        exact bodyPost_ret (v := .tuple #[.agg #[.bool false, .slice none 0 0, .bool false, .int .i64 0], .bool false]) (by simp [results, Try.results49, go_sem]) rfl ⟨(by repeat (first | with_reducible exact Below.refl _ _ | with_reducible refine bl_alloc ?_ _ | with_reducible refine bl_drew ?_ | with_reducible refine bl_drewN ?_ _ | with_reducible refine bl_bx ?_ _ | with_reducible exact BX.below _ | with_reducible refine bl_set ?_ (by first | (exact Nat.le_refl _) | (simp; done) | (simp; omega)) _ | assumption)), rfl⟩
end Go.Proofs.Ytlbgmoijepknbaa
