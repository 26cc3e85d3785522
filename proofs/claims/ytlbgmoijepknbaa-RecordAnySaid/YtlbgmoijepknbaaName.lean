/- Contracts of Encode and Decode of Name. -/
import Derived.Test.YtlbgmoijepknbaaProg
import Derived.Test.YtlbgmoijepknbaaLib
import Derived.Test.YtlbgmoijepknbaaZ
import Derived.Test.YtlbgmoijepknbaaW
import Derived.Test.YtlbgmoijepknbaaPk
namespace Go.Proofs.Ytlbgmoijepknbaa
open Go.RowKit
set_option linter.unusedVariables false

/-- The name that three words hold, if any. -/
def nameDec (x0 x1 x2 : Int) : Option (List Int) :=
  if 16 < x0 then none
  else if x0.toNat % 8 ≠ 0 ∧ ([x1, x2][(x0.toNat + 7) / 8 - 1]?.getD 0) / 2 ^ (x0.toNat % 8 * 8) ≠ 0 then none
  else if (([x1, x2].drop ((x0.toNat + 7) / 8)).all (· == 0)) = false then none
  else some (unpk ([x1, x2].take ((x0.toNat + 7) / 8)) x0.toNat)

set_option maxHeartbeats 400000 in
theorem nameDecode_len (w : World) (A : Option Addr) (n c : Nat) (hn : n ≠ 3) :
    Calls Try.prog 42 #[.agg #[], .slice A n c] w fun e w' => e = .returned (.tuple #[.string ⟨#[]⟩, .bool false]) ∧ Below w.heap.size w w' := by
  have h1 : ((n : Int) != 3) = true := by rw [bne_iff_ne]; omega
  go_enter Try.func42, Try.ntmps42
  go_wp2_with (go_at_call 39; refine (nameWords _).mono ?_; rintro e w' ⟨rfl, hb⟩; obtain ⟨x, rfl⟩ := bx_of hb)
  go_ret2
  exact ⟨rfl, (by repeat (first | with_reducible exact Below.refl _ _ | with_reducible refine bl_alloc ?_ _ | with_reducible refine bl_drew ?_ | with_reducible refine bl_drewN ?_ _ | with_reducible refine bl_bx ?_ _ | with_reducible exact BX.below _ | with_reducible refine bl_set ?_ (by first | (exact Nat.le_refl _) | (simp; done) | (simp; omega)) _ | assumption))⟩

set_option maxHeartbeats 400000 in
theorem nameDecode_big (w : World) (g off c : Nat) (x0 : Int) (hg : g < w.heap.size) (hc : w.cell? ⟨g, off, none⟩ = some (.int .u64 x0)) (hx : 16 < x0) :
    Calls Try.prog 42 #[.agg #[], .slice (some ⟨g, off, none⟩) 3 c] w fun e w' => e = .returned (.tuple #[.string ⟨#[]⟩, .bool false]) ∧ Below w.heap.size w w' := by
  have hg1 : g < w.heap.size + 1 := by omega
  go_enter Try.func42, Try.ntmps42
  go_wp2_with (go_at_call 39; refine (nameWords _).mono ?_; rintro e w' ⟨rfl, hb⟩; obtain ⟨x, rfl⟩ := bx_of hb)
  go_ret2
  exact ⟨rfl, (by repeat (first | with_reducible exact Below.refl _ _ | with_reducible refine bl_alloc ?_ _ | with_reducible refine bl_drew ?_ | with_reducible refine bl_drewN ?_ _ | with_reducible refine bl_bx ?_ _ | with_reducible exact BX.below _ | with_reducible refine bl_set ?_ (by first | (exact Nat.le_refl _) | (simp; done) | (simp; omega)) _ | assumption))⟩

/-- What Name.Decode returns. -/
def nameRes (r : Option (List Int)) : Ending := match r with | some l => .returned (.tuple #[.string (strOf l), .bool true]) | none => .returned (.tuple #[.string ⟨#[]⟩, .bool false])

theorem rd_name {w : World} {g off : Nat} {x1 x2 : Int} (hg : g < w.heap.size) (h1 : w.cell? ⟨g, off + 1, none⟩ = some (.int .u64 x1)) (h2 : w.cell? ⟨g, off + 2, none⟩ = some (.int .u64 x2)) :
    Rd .u64 w (some ⟨g, off + 1, none⟩) [x1, x2] := by
  refine .inr ⟨g, off + 1, rfl, hg, fun i hi => ?_⟩
  match i, hi with
  | 0, _ => exact h1
  | 1, _ => exact h2
theorem rd_rest0 {w : World} {A : Option Addr} {u c : Nat} {x1 x2 : Int} (hu : u ≤ 2) (hc : 3 ≤ c) (e : c = 1 + u) :
    Rd .u64 w A ([x1, x2].drop u) := by
  have : u = 2 := by omega
  subst this; exact .inl rfl
theorem rd_rest1 {w : World} {g off u : Nat} {x1 x2 : Int} (h : Rd .u64 w (some ⟨g, off + 1, none⟩) [x1, x2]) :
    Rd .u64 w (some ⟨g, off + (1 + u), none⟩) ([x1, x2].drop u) := by
  have := h.drop u
  rwa [Nat.add_assoc] at this

set_option maxRecDepth 100000 in
set_option maxHeartbeats 1000000 in
theorem nameDecode_3 (w : World) (g off c : Nat) (x0 x1 x2 : Int) (hg : g < w.heap.size) (h0 : w.cell? ⟨g, off, none⟩ = some (.int .u64 x0)) (hx : x0 ≤ 16) (hx0 : 0 ≤ x0) (hx1 : 0 ≤ x1) (hx2 : 0 ≤ x2)
    (h1 : w.cell? ⟨g, off + 1, none⟩ = some (.int .u64 x1)) (h2 : w.cell? ⟨g, off + 2, none⟩ = some (.int .u64 x2)) (hcap : 3 ≤ c) :
    Calls Try.prog 42 #[.agg #[], .slice (some ⟨g, off, none⟩) 3 c] w fun e w' => e = nameRes (nameDec x0 x1 x2) ∧ Below w.heap.size w w' := by
  have hg1 : g < w.heap.size + 1 := by omega
  obtain ⟨n, rfl⟩ := Int.eq_ofNat_of_zero_le hx0
  have hn16 : n ≤ 16 := by omega
  have HR := Lib.hid (rd_name hg h1 h2)
  have hnn : ∀ i (h : i < [x1, x2].length), 0 ≤ [x1, x2][i] := fun i hi => by
    match i, hi with
    | 0, _ => exact hx1
    | 1, _ => exact hx2
  have HN := Lib.hid hnn
  clear hnn
  have HV := Lib.hid hx
  have hx' : ¬ (16 : Int) < (n : Int) := by omega
  by_cases hbad : n % 8 ≠ 0 ∧ ([x1, x2][(n + 7) / 8 - 1]?.getD 0) / 2 ^ (n % 8 * 8) ≠ 0
  · have HF : Hid (nameRes (nameDec (n : Int) x1 x2) = .returned (.tuple #[.string ⟨#[]⟩, .bool false])) := by
      have : nameDec (n : Int) x1 x2 = none := by unfold nameDec; rw [if_neg hx', Int.toNat_natCast, if_pos hbad]
      rw [this]; rfl
    have HX := Lib.hid hbad
    clear hbad
    go_enter Try.func42, Try.ntmps42
    go_wp2_with (go_at_call 39; refine (nameWords _).mono ?_; rintro e w' ⟨rfl, hb⟩; obtain ⟨x, rfl⟩ := bx_of hb)
    have hq : (n + 7) / 8 - 1 < ([x1, x2].take ((n + 7) / 8)).length := by have := HX.out.1; simp; omega
    have hq2 : (n + 7) / 8 - 1 < [x1, x2].length := by have := HX.out.1; simp; omega
    have e1 : ([x1, x2].take ((n + 7) / 8))[(n + 7) / 8 - 1] = [x1, x2][(n + 7) / 8 - 1] := List.getElem_take
    refine (unpack_bad _ _ _ n ([x1, x2].take ((n + 7) / 8)) (by omega) ((bl_bx (bl_alloc (Below.refl _ w) _) x |> HR.out.below).take _) HX.out.1 hq (by rw [e1]; exact HN.out _ hq2) (by rw [e1]; have := HX.out.2; rwa [List.getElem?_eq_getElem hq2] at this)).mono ?_
    rintro e w' ⟨rfl, rfl⟩
    go_wp2
    go_ret2
    exact ⟨HF.out.symm, (by repeat (first | with_reducible exact Below.refl _ _ | with_reducible refine bl_alloc ?_ _ | with_reducible refine bl_drew ?_ | with_reducible refine bl_drewN ?_ _ | with_reducible refine bl_bx ?_ _ | with_reducible exact BX.below _ | with_reducible refine bl_set ?_ (by first | (exact Nat.le_refl _) | (simp; done) | (simp; omega)) _ | assumption))⟩
  · have hok : n % 8 = 0 ∨ ∃ h : (n + 7) / 8 - 1 < ([x1, x2].take ((n + 7) / 8)).length, ([x1, x2].take ((n + 7) / 8))[(n + 7) / 8 - 1] / 2 ^ (n % 8 * 8) = 0 := by
      by_cases h8 : n % 8 = 0
      · exact .inl h8
      · have hq : (n + 7) / 8 - 1 < ([x1, x2].take ((n + 7) / 8)).length := by simp; omega
        have hq2 : (n + 7) / 8 - 1 < [x1, x2].length := by simp; omega
        refine .inr ⟨hq, ?_⟩
        rw [List.getElem_take]
        have h9 := fun h => hbad ⟨h8, h⟩
        rw [List.getElem?_eq_getElem hq2] at h9
        simpa using h9
    have HK := Lib.hid hok
    clear hok
    have hpos : ∀ i (h : i < ([x1, x2].take ((n + 7) / 8)).length), 0 ≤ ([x1, x2].take ((n + 7) / 8))[i] := fun i hi => by
      rw [List.getElem_take]
      exact HN.out i (by simp at hi ⊢; omega)
    have HP := Lib.hid hpos
    clear hpos
    by_cases hz : ([x1, x2].drop ((n + 7) / 8)).all (· == 0) = true
    · have HF : Hid (nameRes (nameDec (n : Int) x1 x2) = .returned (.tuple #[.string (strOf (unpk ([x1, x2].take ((n + 7) / 8)) n)), .bool true])) := by
        have : nameDec (n : Int) x1 x2 = some (unpk ([x1, x2].take ((n + 7) / 8)) n) := by unfold nameDec; rw [if_neg hx', Int.toNat_natCast, if_neg hbad, if_neg (by rw [hz]; simp)]
        rw [this]; rfl
      have HZ := Lib.hid hz
      clear hbad hz
      go_enter Try.func42, Try.ntmps42
      go_wp2_with (go_at_call 39; refine (nameWords _).mono ?_; rintro e w' ⟨rfl, hb⟩; obtain ⟨x, rfl⟩ := bx_of hb)
      refine (unpack_loop _ _ _ n ([x1, x2].take ((n + 7) / 8)) (by omega) (by simp; omega) ((bl_bx (bl_alloc (Below.refl _ w) _) x |> HR.out.below).take _) HP.out HK.out).mono ?_
      rintro e w' ⟨rfl, hI, hb2⟩
      obtain ⟨y, rfl⟩ := bx_of hb2
      have HI := Lib.hid hI
      clear hI
      go_wp2_with fail
      all_goals refine (zeros_n _ _ _ _ ([x1, x2].drop ((n + 7) / 8)) (by simp; omega) (by first | exact rd_rest1 (HR.out.below (by repeat (first | with_reducible exact Below.refl _ _ | with_reducible refine bl_alloc ?_ _ | with_reducible refine bl_drew ?_ | with_reducible refine bl_drewN ?_ _ | with_reducible refine bl_bx ?_ _ | with_reducible exact BX.below _ | with_reducible refine bl_set ?_ (by first | (exact Nat.le_refl _) | (simp; done) | (simp; omega)) _ | assumption))) | exact rd_rest0 (by omega) hcap (by assumption)) (by simp; omega)).mono ?_
      all_goals rintro e w' ⟨rfl, rfl⟩
      all_goals rw [HZ.out]
      all_goals have hcv := run_bytes_str (P := Try.prog) y.w 156 9 5 Try.underlying156 Try.underlying5 Try.underlying9 x.w.heap.size 0 n n (unpk ([x1, x2].take ((n + 7) / 8)) n) (length_unpk _ _) (HI.out.rd0)
      all_goals go_wp2
      all_goals go_ret2
      all_goals exact ⟨HF.out.symm, (by repeat (first | with_reducible exact Below.refl _ _ | with_reducible refine bl_alloc ?_ _ | with_reducible refine bl_drew ?_ | with_reducible refine bl_drewN ?_ _ | with_reducible refine bl_bx ?_ _ | with_reducible exact BX.below _ | with_reducible refine bl_set ?_ (by first | (exact Nat.le_refl _) | (simp; done) | (simp; omega)) _ | assumption))⟩
    · have HF : Hid (nameRes (nameDec (n : Int) x1 x2) = .returned (.tuple #[.string ⟨#[]⟩, .bool false])) := by
        have : nameDec (n : Int) x1 x2 = none := by unfold nameDec; rw [if_neg hx', Int.toNat_natCast, if_neg hbad, if_pos (by simpa using hz)]
        rw [this]; rfl
      have HZ : Hid (([x1, x2].drop ((n + 7) / 8)).all (· == 0) = false) := by show _ = _; simpa using hz
      clear hbad hz
      go_enter Try.func42, Try.ntmps42
      go_wp2_with (go_at_call 39; refine (nameWords _).mono ?_; rintro e w' ⟨rfl, hb⟩; obtain ⟨x, rfl⟩ := bx_of hb)
      refine (unpack_loop _ _ _ n ([x1, x2].take ((n + 7) / 8)) (by omega) (by simp; omega) ((bl_bx (bl_alloc (Below.refl _ w) _) x |> HR.out.below).take _) HP.out HK.out).mono ?_
      rintro e w' ⟨rfl, hI, hb2⟩
      obtain ⟨y, rfl⟩ := bx_of hb2
      have HI := Lib.hid hI
      clear hI
      go_wp2_with fail
      all_goals refine (zeros_n _ _ _ _ ([x1, x2].drop ((n + 7) / 8)) (by simp; omega) (by first | exact rd_rest1 (HR.out.below (by repeat (first | with_reducible exact Below.refl _ _ | with_reducible refine bl_alloc ?_ _ | with_reducible refine bl_drew ?_ | with_reducible refine bl_drewN ?_ _ | with_reducible refine bl_bx ?_ _ | with_reducible exact BX.below _ | with_reducible refine bl_set ?_ (by first | (exact Nat.le_refl _) | (simp; done) | (simp; omega)) _ | assumption))) | exact rd_rest0 (by omega) hcap (by assumption)) (by simp; omega)).mono ?_
      all_goals rintro e w' ⟨rfl, rfl⟩
      all_goals rw [HZ.out]
      all_goals go_wp2
      all_goals go_ret2
      all_goals exact ⟨HF.out.symm, (by repeat (first | with_reducible exact Below.refl _ _ | with_reducible refine bl_alloc ?_ _ | with_reducible refine bl_drew ?_ | with_reducible refine bl_drewN ?_ _ | with_reducible refine bl_bx ?_ _ | with_reducible exact BX.below _ | with_reducible refine bl_set ?_ (by first | (exact Nat.le_refl _) | (simp; done) | (simp; omega)) _ | assumption))⟩
end Go.Proofs.Ytlbgmoijepknbaa
