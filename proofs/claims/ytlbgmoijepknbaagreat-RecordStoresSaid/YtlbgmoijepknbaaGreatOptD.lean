/- Contract of Decode of Option of Int. -/
import Derived.Test.YtlbgmoijepknbaaGreatDecS
import Derived.Test.YtlbgmoijepknbaaGreatOptI
import Derived.Deep.RegionHeld3
namespace Go.Proofs.YtlbgmoijepknbaaGreat
open Go.RowKit
set_option linter.unusedVariables false

def decO (a b : Int) : Option (Option Int) := if 1 < a then none else if a = 0 then (if b = 0 then some none else none) else some (some (wrap64 b))
def DecOPost (w : World) (r : Option (Option Int)) (e : Ending) (w' : World) : Prop :=
  Below w.heap.size w w' ∧ match r with
  | some o => ∃ p, e = .returned (.tuple #[.pointer p, .bool true]) ∧ PtrI w' p o ∧ (∀ b, OwnB p b → w.heap.size ≤ b)
  | none => e = .returned (.tuple #[.pointer none, .bool false])

theorem PtrI.setCell {w : World} {q : Option Addr} {o : Option Int} (h : PtrI w q o) {p : Addr} (hp : ∀ b, OwnB q b → b ≠ p.block) (u : Value) : PtrI (w.setCell p u) q o := by
  rcases h with h | ⟨b, off, n, h1, h2, h3, h4⟩
  · exact .inl h
  · refine .inr ⟨b, off, n, h1, h2, by simpa using h3, ?_⟩
    rw [← h4]
    exact World.cell?_of_block (w := w) (a := ⟨b, off, none⟩) (Below.heap_setCell w p u b (hp b (by rw [h1]; simp [OwnB])))

set_option maxRecDepth 100000 in
set_option maxHeartbeats 2000000 in
theorem optIDecode (w : World) (g off c : Nat) (a b : Int) (hc : 2 ≤ c) (hg : g < w.heap.size) (h0 : w.cell? ⟨g, off, none⟩ = some (.int .u64 a)) (h1 : w.cell? ⟨g, off + 1, none⟩ = some (.int .u64 b)) (ha : 0 ≤ a) :
    Calls Tryz.prog 107 #[.agg #[.iface 62 (.agg #[])], .slice (some ⟨g, off, none⟩) 2 c] w (DecOPost w (decO a b)) := by
  have hg1 : g < w.heap.size + 1 := by omega
  have hcc : ¬ c = 1 := by omega
  by_cases hx : 1 < a
  · have HE : Hid (decO a b = none) := by show _ = _; unfold decO; rw [if_pos hx]
    go_enter Tryz.func107, Tryz.ntmps107
    go_wp2_with (go_at_call 109; refine (optIWords _).mono ?_; rintro e w' ⟨rfl, hb⟩; obtain ⟨x, rfl⟩ := bx_of hb; clear hb)
    go_ret2
    unfold DecOPost
    rw [HE.out]
    exact ⟨(by repeat (first | with_reducible exact Below.refl _ _ | with_reducible refine bl_alloc ?_ _ | with_reducible refine bl_drew ?_ | with_reducible refine bl_drewN ?_ _ | with_reducible refine bl_bx ?_ _ | with_reducible exact BX.below _ | with_reducible refine bl_set ?_ (by first | (exact Nat.le_refl _) | (simp; done) | (simp; omega)) _ | assumption)), rfl⟩
  · by_cases hz : a = 0
    · subst hz
      have hR : Rd .u64 w (some ⟨g, off + 1, none⟩) [b] := .inr ⟨g, off + 1, rfl, hg, fun i hi => by
        have : i = 0 := by simpa using hi
        subst this
        exact h1⟩
      have HR := Lib.hid hR
      clear hR
      go_enter Tryz.func107, Tryz.ntmps107
      go_wp2_with (go_at_call 109; refine (optIWords _).mono ?_; rintro e w' ⟨rfl, hb⟩; obtain ⟨x, rfl⟩ := bx_of hb; clear hb)
      refine (zeros_n _ _ _ _ [b] (by simp) (HR.out.below (bl_bx (bl_alloc (Below.refl _ _) _) x)) (by simp)).mono ?_
      rintro e w' ⟨rfl, rfl⟩
      by_cases hb0 : b = 0
      · have HE : Hid (decO 0 b = some none) := by show _ = _; unfold decO; rw [if_neg (by omega), if_pos rfl, if_pos hb0]
        rw [show [b].all (· == 0) = true by simp [hb0]]
        clear hb0
        go_wp2
        go_ret2
        unfold DecOPost
        rw [HE.out]
        exact ⟨(by repeat (first | with_reducible exact Below.refl _ _ | with_reducible refine bl_alloc ?_ _ | with_reducible refine bl_drew ?_ | with_reducible refine bl_drewN ?_ _ | with_reducible refine bl_bx ?_ _ | with_reducible exact BX.below _ | with_reducible refine bl_set ?_ (by first | (exact Nat.le_refl _) | (simp; done) | (simp; omega)) _ | assumption)), none, rfl, .inl ⟨rfl, rfl⟩, fun b hb => by simp [OwnB] at hb⟩
      · have HE : Hid (decO 0 b = none) := by show _ = _; unfold decO; rw [if_neg (by omega), if_pos rfl, if_neg hb0]
        rw [show [b].all (· == 0) = false by simp [hb0]]
        clear hb0
        go_wp2
        go_ret2
        unfold DecOPost
        rw [HE.out]
        exact ⟨(by repeat (first | with_reducible exact Below.refl _ _ | with_reducible refine bl_alloc ?_ _ | with_reducible refine bl_drew ?_ | with_reducible refine bl_drewN ?_ _ | with_reducible refine bl_bx ?_ _ | with_reducible exact BX.below _ | with_reducible refine bl_set ?_ (by first | (exact Nat.le_refl _) | (simp; done) | (simp; omega)) _ | assumption)), rfl⟩
    · obtain rfl : a = 1 := by omega
      have HE : Hid (decO 1 b = some (some (wrap64 b))) := by show _ = _; unfold decO; rw [if_neg (by omega), if_neg (by omega)]
      clear hz hx
      go_enter Tryz.func107, Tryz.ntmps107
      go_wp2_with (go_at_call 109; refine (optIWords _).mono ?_; rintro e w' ⟨rfl, hb⟩; obtain ⟨x, rfl⟩ := bx_of hb; clear hb)
      have hgx : g < x.w.heap.size := x.lt_size (by simp; omega)
      have hbx : w.heap.size < x.w.heap.size := x.lt_size (by simp)
      have hxc : x.w.cell? ⟨g, off + 1, none⟩ = some (.int .u64 b) := by go_simp
      have hxi : x.w.cell? ⟨w.heap.size, 0, none⟩ = some (.iface 62 (.agg #[])) := by go_simp
      go_region_held3 (fun w' => w'.cell? ⟨w.heap.size, 0, none⟩ = some (.iface 62 (.agg #[])) ∧ w'.cell? ⟨g, off + 1, none⟩ = some (.int .u64 b) ∧ w.heap.size < w'.heap.size ∧ g < w'.heap.size ∧ Below x.w.heap.size x.w w')
        ((refine ⟨?_, ?_, ?_, ?_, ?_⟩ <;> first | ((repeat (first | with_reducible exact Below.refl _ _ | with_reducible refine bl_alloc ?_ _ | with_reducible refine bl_drew ?_ | with_reducible refine bl_drewN ?_ _ | with_reducible refine bl_bx ?_ _ | with_reducible exact BX.below _ | with_reducible refine bl_set ?_ (by first | (exact Nat.le_refl _) | (simp; done) | (simp; omega)) _ | assumption)); done) | (go_simp; done) | (simp_all; done)))
        (first | (go_at_call 95; refine (intDecode_ok _ g _ _ b (by go_simp) (by go_simp)).mono ?_; rintro e w' ⟨rfl, hb⟩; obtain ⟨q, rfl⟩ := bx_of hb; clear hb))
      all_goals go_wp2
      all_goals go_ret2
      all_goals unfold DecOPost
      all_goals rw [HE.out]
      all_goals refine ⟨(by repeat (first | with_reducible exact Below.refl _ _ | with_reducible refine bl_alloc ?_ _ | with_reducible refine bl_drew ?_ | with_reducible refine bl_drewN ?_ _ | with_reducible refine bl_bx ?_ _ | with_reducible exact BX.below _ | with_reducible refine bl_set ?_ (by first | (exact Nat.le_refl _) | (simp; done) | (simp; omega)) _ | assumption)), _, rfl, .inr ⟨_, _, _, rfl, rfl, ?_, ?_⟩, fun b hb => ?_⟩
      all_goals first | (have := q.size; simp at this; simp [OwnB] at hb; omega) | (simp; done) | (simp; exact BX.lt_size _ (by simp)) | (have hq := BX.cell q x.w.heap.size 0 (by simp); simp at hq; simp [hq]; done) | (have hq := BX.cell q x.w.heap.size 0 (by simp); go_simp)
end Go.Proofs.YtlbgmoijepknbaaGreat
