/- Contracts of slices.Clone, record.Seal, record.Open. -/
import Derived.Test.YtlbgmoijepknbaaDoorCrcC
import Derived.Test.YtlbgmoijepknbaaDoorApp
import Derived.Test.YtlbgmoijepknbaaDoorHist
import Derived.Test.YtlbgmoijepknbaaDoorPk
import Derived.Test.YtlbgmoijepknbaaDoorRep
import Derived.Lib.LazyBuf
import Derived.BigQuiet
namespace Go.Proofs.YtlbgmoijepknbaaDoor
open Go.RowKit
set_option linter.unusedVariables false

theorem Rd.none_nil {k : IntKind} {w : World} {xs : List Int} (h : Rd k w none xs) : xs = [] := by
  rcases h with h | ⟨b, off, h, _⟩
  · exact h
  · cases h
theorem sl_of_own {w : World} {base : Nat} {A : Option Addr} {c n : Nat} {xs : List Int} (h : OwnI .u64 27 w base A c xs) (hn : xs.length = n) (hz : A = none → c = 0) : Sl 27 1 w A n n (xs.map (Value.int .u64)) := by
  subst hn
  rcases h.cases with ⟨rfl, rfl, _⟩ | ⟨g, cur, rfl, hg, hh, h1, h2, h3, h4⟩
  · exact Sl.nil
  · exact ⟨by simp, .inr ⟨g, 0, cur, rfl, hh, Nat.le_refl _, by omega, by omega, by simpa using h4⟩⟩
theorem Sl.rdM {w : World} {A : Option Addr} {n c : Nat} {xs : List Int} (h : Sl 27 1 w A n c (xs.map (Value.int .u64))) : Rd .u64 w A xs := by
  rcases Nat.eq_zero_or_pos n with rfl | hn
  · have := h.1
    left; simpa using this
  · have hl : xs.length = n := by simpa using h.1
    obtain ⟨g, off, rfl, hg, _⟩ := h.at_ (j := 0) (by simp; omega)
    refine .inr ⟨g, off, rfl, hg, fun i hi => ?_⟩
    obtain ⟨g', off', h1, h2, h3⟩ := h.at_ (j := i) (by simpa using hi)
    injection h1 with h1
    injection h1 with h1 h1'
    subst h1 h1'
    rw [h3]; simp

def ClPost (w : World) (n : Nat) (xs : List Int) (e : Ending) (w' : World) : Prop :=
  ∃ A' c', e = .returned (.slice A' n c') ∧ OwnI .u64 27 w' w.heap.size A' c' xs ∧ (A' = none → c' = 0) ∧ n ≤ c' ∧ Below w.heap.size w w'
set_option maxRecDepth 100000 in
set_option maxHeartbeats 400000 in
theorem cloneA (w : World) (A : Option Addr) (n c : Nat) (xs : List Int) (hn : xs.length = n) (hb : n ≤ 1000000) (hA : A = none → c = 0) (hR : Rd .u64 w A xs) :
    Calls Tryd.prog 17 #[.slice A n c] w (ClPost w n xs) := by
  have hsn := fun (W : World) => run_eql_slice_nil (P := Tryd.prog) W 22 27 A n c Tryd.underlying22
  cases A with
  | none =>
    obtain rfl := hR.none_nil
    obtain rfl : n = 0 := by simpa using hn.symm
    obtain rfl := hA rfl
    simp only [Option.isNone_none] at hsn
    go_enter Tryd.func17, Tryd.ntmps17
    go_wp2
    go_ret
    exact ⟨none, 0, rfl, OwnI.nil, fun _ => rfl, Nat.le_refl _, (by repeat (first | with_reducible exact Below.refl _ _ | with_reducible refine bl_alloc ?_ _ | with_reducible refine bl_drew ?_ | with_reducible refine bl_drewN ?_ _ | with_reducible refine bl_bx ?_ _ | with_reducible exact BX.below _ | with_reducible refine bl_set ?_ (by first | (exact Nat.le_refl _) | (simp; done) | (simp; omega)) _ | assumption))⟩
  | some p =>
    have HR := Lib.hid (hR.alloc (.cells #[] 27))
    have HN := Lib.hid hn
    have HS : Hid (OwnI .u64 27 (w.alloc (.cells #[] 27)) w.heap.size (some ⟨w.heap.size, 0, none⟩) 0 []) := OwnI.made (k := .u64) (e := 27) w 0 (by omega) (Nat.le_refl _)
    simp only [Option.isNone_some] at hsn
    clear hR hn hA
    go_enter Tryd.func17, Tryd.ntmps17
    go_wp2_with (at_builtin; refine wpList_append_ints rfl (.tmp 5) (.tmp 6) 22 rfl 27 .u64 8 Tryd.underlying22 info_u64 (by omega) w.heap.size (some ⟨w.heap.size, 0, none⟩) 0 [] 0 (some p) n c xs rfl rfl rfl HS.out HN.out HR.out (by have := HN.out; simp only [List.length_nil]; omega) (by simp) ?_; intro A2 c2 w2 HO HC HW)
    go_ret
    have h1 := HO.out
    simp only [List.nil_append] at h1
    refine ⟨A2, c2, rfl, h1, fun h => ?_, ?_, bl_ch (bl_alloc (Below.refl _ _) _) HC.out (fun b hb => by simp [OwnB] at hb; omega)⟩
    · rcases h1.cases with ⟨_, _, h⟩ | ⟨g, cur, h2, _⟩
      · exact h
      · rw [h] at h2; cases h2
    · have hN := HN.out
      rcases h1.cases with ⟨_, h2, _⟩ | ⟨g, cur, h2, _, _, h3, _⟩
      · rw [h2] at hN; simp at hN; omega
      · omega

set_option maxHeartbeats 400000 in
theorem clipU (w : World) (A : Option Addr) (n c : Nat) (hc : n ≤ c) (hA : A = none → c = 0) (hp : ∀ p, A = some p → p.spot = none) :
    Calls Tryd.prog 16 #[.slice A n c] w fun e w' => e = .returned (.slice A n n) ∧ w = w' := by
  cases A with
  | none =>
    obtain rfl := hA rfl
    obtain rfl : n = 0 := by omega
    go_enter Tryd.func16, Tryd.ntmps16
    go_wp2
    go_ret
    exact ⟨rfl, rfl⟩
  | some p =>
    obtain ⟨g, o, ix⟩ := p
    go_enter Tryd.func16, Tryd.ntmps16
    go_wp2
    go_ret
    exact ⟨rfl, rfl⟩
end Go.Proofs.YtlbgmoijepknbaaDoor
