/- Open, Recover and Begin of a queue (merged). -/
import Derived.Test.YtaefkelaffijbaaGreatDoorKfo
import Derived.Test.YtaefkelaffijbaaGreatDoorKfi
import Derived.Test.YtaefkelaffijbaaGreatDoorKfj
import Derived.Test.YtaefkelaffijbaaGreatDoorKfk
namespace Go.Proofs.YtaefkelaffijbaaGreatDoor
open Go.RowKit
set_option linter.unusedVariables false
set_option linter.unusedSimpArgs false
/-- The words of an empty queue. -/
structure QEm (xs : List Int) (lines P : Nat) : Prop where
 mark : xs[256]? = some 349322958149
 ln : xs[257]? = some (lines : Int)
 zero : ∀ k, 258 ≤ k → k < 264 + P → xs[k]? = some 0
section
variable {K : Nat → Prop} {p d q n lines P N f : Nat} {t : Nat → Nat} {bs : Nat → Option Nat} {w w' : World} {σ : PwS} {xs : List Int} {L : Nat → Int} {qs : List Int}
set_option maxRecDepth 100000 in
set_option maxHeartbeats 4000000 in
theorem quSound (h : QuV K p d q n lines P t bs w σ xs N L 0 []) (he : QEm xs lines P) (hl100 : lines ≤ 100) : Calls Tryz.prog 83 #[.pointer (some ⟨q, 0, none⟩)] w fun e w' => e = .returned (.bool true) ∧ Below w.heap.size w w' := by
 have hP := h.hP
 have hn2 := h.hn2
 have hP0 : 0 < P := by omega
 have HWD : Hid (∀ W, Below w.heap.size w W → ∀ j : Nat, j < 1000 → Calls Tryz.prog 60 #[.pointer (some ⟨q, 0, none⟩), .int .i64 (j : Int)] W fun e w' => e = .returned (.int .u64 (2048 + 8 * (j : Int))) ∧ W = w') := fun W hW j hj => quWord (h.hq.qc.bl hW) j hj (by omega)
 have hLD := fun (W : World) (hW : Below w.heap.size w W) (k : Nat) (v : Int) (hk : xs[k]? = some v) => quLoadW (h.bl hW).pm h.on (h.bl hW).hq k v hk
 have HW0 : Hid (∀ W, Below w.heap.size w W → Calls Tryz.prog 60 #[.pointer (some ⟨q, 0, none⟩), .int .i64 0] W fun e w' => e = .returned (.int .u64 2048) ∧ W = w') := fun W hW => by
  have := quWord (h.hq.qc.bl hW) 0 (by omega) (by omega); simpa using this
 have HW1 : Hid (∀ W, Below w.heap.size w W → Calls Tryz.prog 60 #[.pointer (some ⟨q, 0, none⟩), .int .i64 1] W fun e w' => e = .returned (.int .u64 2056) ∧ W = w') := fun W hW => by
  have := quWord (h.hq.qc.bl hW) 1 (by omega) (by omega); simpa using this
 have HW3 : Hid (∀ W, Below w.heap.size w W → Calls Tryz.prog 60 #[.pointer (some ⟨q, 0, none⟩), .int .i64 3] W fun e w' => e = .returned (.int .u64 2072) ∧ W = w') := fun W hW => by
  have := quWord (h.hq.qc.bl hW) 3 (by omega) (by omega); simpa using this
 have HL0 : Hid (∀ W, Below w.heap.size w W → Calls Tryz.prog 41 #[.pointer (some ⟨q, 0, none⟩), .int .u64 2048] W fun e w' => e = .returned (.int .u64 349322958149) ∧ W = w') := fun W hW => hLD W hW 256 _ he.mark
 have HL1 : Hid (∀ W, Below w.heap.size w W → Calls Tryz.prog 41 #[.pointer (some ⟨q, 0, none⟩), .int .u64 2056] W fun e w' => e = .returned (.int .u64 (lines : Int)) ∧ W = w') := fun W hW => hLD W hW 257 _ he.ln
 have HL3 : Hid (∀ W, Below w.heap.size w W → Calls Tryz.prog 41 #[.pointer (some ⟨q, 0, none⟩), .int .u64 2072] W fun e w' => e = .returned (.int .u64 0) ∧ W = w') := fun W hW => hLD W hW 259 _ (he.zero 259 (by omega) (by omega))
 have HLJ : Hid (∀ W, Below w.heap.size w W → ∀ j : Nat, j < 8 * lines → ∃ v : Int, v / 4611686018427387904 = 0 ∧ (0 ≤ v ∧ v < 4611686018427387904) ∧ Calls Tryz.prog 41 #[.pointer (some ⟨q, 0, none⟩), .int .u64 (2048 + 8 * (j : Int))] W fun e w' => e = .returned (.int .u64 v) ∧ W = w') := fun W hW j hj => by
  have e : 2048 + 8 * (j : Int) = 8 * ((256 + j : Nat) : Int) := by omega
  rw [e]
  by_cases h0 : j = 0
  · subst h0; exact ⟨349322958149, by omega, by omega, hLD W hW 256 _ he.mark⟩
  · by_cases h1 : j = 1
    · subst h1; exact ⟨(lines : Int), by omega, by omega, hLD W hW 257 _ he.ln⟩
    · exact ⟨0, by omega, by omega, hLD W hW (256 + j) _ (he.zero _ (by omega) (by omega))⟩
 have HST := Lib.hid (fun (W : World) (hW : Below w.heap.size w W) => quState (h.bl hW))
 have HPL : Hid (∀ W, Below w.heap.size w W → Calls Tryz.prog 44 #[.pointer (some ⟨q, 0, none⟩)] W fun e w' => e = .returned (.int .u64 (P : Int)) ∧ W = w') := fun W hW => by
  have := quPlaces (h.hq.qc.bl hW) (by omega) hP.2.2
  rw [hP.1] at this; exact this
 have HPX : Hid (∀ W, Below w.heap.size w W → ∀ g1 : Nat, g1 < P → Calls Tryz.prog 42 #[.pointer (some ⟨q, 0, none⟩), .int .u64 (g1 : Int)] W fun e w' => e = .returned (.int .u64 (8 * ((264 + g1 : Nat) : Int))) ∧ ∃ n, w' = W.drewN n) := fun W hW g1 hg => by
  have := quPlace (h.hq.qc.bl hW) hP.1 hP.2.1 hP.2.2 g1 (by omega) (by omega)
  rw [Nat.mod_eq_of_lt hg] at this
  have e : (2048 + 64 + 8 * ((g1 : Nat) : Int)) = 8 * ((264 + g1 : Nat) : Int) := by omega
  rw [e] at this; exact this
 have HLP : Hid (∀ W, Below w.heap.size w W → ∀ g1 : Nat, g1 < P → Calls Tryz.prog 41 #[.pointer (some ⟨q, 0, none⟩), .int .u64 (8 * ((264 + g1 : Nat) : Int))] W fun e w' => e = .returned (.int .u64 0) ∧ W = w') := fun W hW g1 hg => hLD W hW (264 + g1) _ (he.zero _ (by omega) (by omega))
 obtain ⟨q0, q1, q2, q3, ql⟩ := h.hq.qc
 have e1 : IntKind.u64.wrap (lines : Int) = (lines : Int) := IntWalk.u64_in _ (by omega)
 have e2 : IntKind.i64.wrap ((lines : Int) * 8) = (lines : Int) * 8 := IntWalk.i64_in _ (by omega)
 have hPI : (0 : Int) < (P : Int) := by omega
 have hl7 : lines < 1000 := hP.2.2
 have hPb : P < 10000 := by omega
 have HQ := Lib.hid (And.intro q3 ql)
 clear h he hLD hP hn2
 go_enter Tryz.func83, Tryz.ntmps83
 go_upto_region 1 with (fail)
 go_quiet ((first
  | (go_at_call 60; (first | (with_reducible exact q_same (HW0.out _ (by (repeat (first | with_reducible (first | exact Below.refl _ _ | refine bl_alloc ?_ _ | refine bl_drew ?_ | refine bl_drewN ?_ _ | refine bl_bx ?_ _ | exact BX.below _ | refine bl_set ?_ (by first | (exact Nat.le_refl _) | (simp; done) | (simp; omega)) _) | assumption))))) | (with_reducible exact q_same (HW1.out _ (by (repeat (first | with_reducible (first | exact Below.refl _ _ | refine bl_alloc ?_ _ | refine bl_drew ?_ | refine bl_drewN ?_ _ | refine bl_bx ?_ _ | exact BX.below _ | refine bl_set ?_ (by first | (exact Nat.le_refl _) | (simp; done) | (simp; omega)) _) | assumption)))))))
  | (go_at_call 41; (first | (with_reducible exact q_same (HL0.out _ (by (repeat (first | with_reducible (first | exact Below.refl _ _ | refine bl_alloc ?_ _ | refine bl_drew ?_ | refine bl_drewN ?_ _ | refine bl_bx ?_ _ | exact BX.below _ | refine bl_set ?_ (by first | (exact Nat.le_refl _) | (simp; done) | (simp; omega)) _) | assumption))))) | (with_reducible exact q_same (HL1.out _ (by (repeat (first | with_reducible (first | exact Below.refl _ _ | refine bl_alloc ?_ _ | refine bl_drew ?_ | refine bl_drewN ?_ _ | refine bl_bx ?_ _ | exact BX.below _ | refine bl_set ?_ (by first | (exact Nat.le_refl _) | (simp; done) | (simp; omega)) _) | assumption)))))))))
 go_wp2
 go_loopw [29, 2, 3, 30, 31, 32, 33, 34, 35, 36, 37, 38, 39] (fun i _ _ _ _ _ _ _ _ _ _ _ _ wr => ∃ j : Nat, j ≤ 8 * lines ∧ i = .int .i64 j ∧ Below w.heap.size w wr) (fun i _ _ _ _ _ _ _ _ _ _ _ _ _ => 8 * lines - (intOf i).toNat)
 case atStart => exact ⟨0, by omega, rfl, by (repeat (first | with_reducible (first | exact Below.refl _ _ | refine bl_alloc ?_ _ | refine bl_drew ?_ | refine bl_drewN ?_ _ | refine bl_bx ?_ _ | exact BX.below _ | refine bl_set ?_ (by first | (exact Nat.le_refl _) | (simp; done) | (simp; omega)) _) | assumption))⟩
 case round =>
  obtain ⟨j, hj, rfl, hB⟩ := hrel
  have HB := Lib.hid hB
  have HQB := Lib.hid (show wr.cell? ⟨q, 3, none⟩ = some (.int .i64 lines) ∧ q < wr.heap.size from ⟨(hB.cell (p := ⟨q, 3, none⟩) HQ.out.2).trans HQ.out.1, Nat.lt_of_lt_of_le HQ.out.2 hB.size⟩)
  by_cases hlt : j < 8 * lines
  · have hlt' : (j : Int) < (lines : Int) * 8 := by omega
    obtain ⟨v, hv1, hv2, hv3⟩ := HLJ.out wr hB j hlt
    have HV := Lib.hid hv3
    have HX := Lib.hid (HWD.out wr hB j (by omega))
    clear hB hv3
    generalize 2048 + 8 * (j : Int) = off at *
    go_wp2_with (first
     | (go_at_call 60; (with_reducible refine HX.out.mono ?_); rintro e w' ⟨rfl, rfl⟩)
     | (go_at_call 41; (with_reducible refine HV.out.mono ?_); rintro e w' ⟨rfl, rfl⟩))
    exact ⟨⟨j + 1, by omega, by go_num, HB.out⟩, by simp [intOf]; omega⟩
  · have hlt' : ¬ (j : Int) < (lines : Int) * 8 := by omega
    have HST2 := Lib.hid (HST.out wr hB)
    have HPL2 := Lib.hid (HPL.out wr hB)
    have HW32 := Lib.hid (HW3.out wr hB)
    have HL32 := Lib.hid (HL3.out wr hB)
    have hP0' : ¬ (P : Int) ≤ 0 := by omega
    clear hB
    go_wp2_with (first
     | (go_at_call 40; (with_reducible refine HST2.out.mono ?_); rintro e w' ⟨rfl, rfl⟩)
     | (go_at_call 44; (with_reducible refine HPL2.out.mono ?_); rintro e w' ⟨rfl, rfl⟩)
     | (go_at_call 60; (with_reducible refine HW32.out.mono ?_); rintro e w' ⟨rfl, rfl⟩)
     | (go_at_call 41; (with_reducible refine HL32.out.mono ?_); rintro e w' ⟨rfl, rfl⟩))
    obtain ⟨wz, hwz⟩ : ∃ wz, wz = wr := ⟨wr, rfl⟩
    rw [← hwz] at HB ⊢
    clear hwz HST2 HPL2 HW32 HL32 HQB
    go_loopw [6, 2, 59, 60, 61, 62, 63, 64, 65, 66, 67, 68, 69, 70, 71, 72, 73] (fun i _ _ _ _ _ _ _ _ _ _ _ _ _ _ _ _ wr => ∃ x : Nat, x ≤ P ∧ i = .int .u64 x ∧ Below w.heap.size w wr) (fun i _ _ _ _ _ _ _ _ _ _ _ _ _ _ _ _ _ => P - (intOf i).toNat)
    case atStart => exact ⟨0, by omega, rfl, HB.out⟩
    case round =>
     clear HB
     obtain ⟨x, hx, rfl, hB⟩ := hrel
     have HB := Lib.hid hB
     have HPL2 := Lib.hid (HPL.out wr hB)
     by_cases hlt : x < P
     · have hlt2 : (x : Int) < (P : Int) := by omega
       have HX := Lib.hid (HPX.out wr hB x hlt)
       have HY : Hid (∀ W, Below wr.heap.size wr W → Calls Tryz.prog 41 #[.pointer (some ⟨q, 0, none⟩), .int .u64 (8 * ((264 + x : Nat) : Int))] W fun e w' => e = .returned (.int .u64 0) ∧ W = w') := fun W hW => HLP.out W (hB.trans (hW.mono hB.size)) x hlt
       have e5 : IntKind.u64.wrap ((x : Int) + 1) = (x : Int) + 1 := IntWalk.u64_in _ (by omega)
       have e6 : IntKind.u64.wrap (0 + (x : Int)) = (x : Int) := by rw [Int.zero_add]; exact IntWalk.u64_in _ (by omega)
       have e7 : IntKind.u64.wrap (x : Int) = (x : Int) := IntWalk.u64_in _ (by omega)
       generalize 8 * ((264 + x : Nat) : Int) = off at *
       clear hB
       go_wp2_with (first
        | (go_at_call 44; (with_reducible refine HPL2.out.mono ?_); rintro e w' ⟨rfl, rfl⟩)
        | (go_at_call 42; (with_reducible refine HX.out.mono ?_); rintro e w' ⟨rfl, n3, rfl⟩)
        | (go_at_call 41; (with_reducible refine (HY.out _ (by (repeat (first | with_reducible (first | exact Below.refl _ _ | refine bl_alloc ?_ _ | refine bl_drew ?_ | refine bl_drewN ?_ _ | refine bl_bx ?_ _ | exact BX.below _ | refine bl_set ?_ (by first | (exact Nat.le_refl _) | (simp; done) | (simp; omega)) _) | assumption)))).mono ?_); rintro e w' ⟨rfl, rfl⟩))
       exact ⟨⟨x + 1, by omega, by go_num, HB.out.trans ((bl_drewN (Below.refl _ _) _ : Below wr.heap.size wr _).mono HB.out.size)⟩, by simp [intOf]; omega⟩
     · have hlt2 : ¬ (x : Int) < (P : Int) := by omega
       clear hB
       go_wp2_with (go_at_call 44; (with_reducible refine HPL2.out.mono ?_); rintro e w' ⟨rfl, rfl⟩)
       go_ret
       exact ⟨rfl, HB.out⟩
end
set_option maxRecDepth 100000 in
set_option maxHeartbeats 2000000 in
theorem rgRead_f (w : World) (line lines size : Int) (tp : Nat) (off : Int) (HL : ∀ W, Below w.heap.size w W → Calls Tryz.prog 61 #[.pointer (some ⟨tp, 0, none⟩), .int .u64 off] W fun e w' => e = .returned (.int .u64 1836515329) ∧ W = w') :
 Calls Tryz.prog 104 #[.agg #[.int .i64 line, .int .i64 lines, .int .u64 size], .func (.func 61) #[.pointer (some ⟨tp, 0, none⟩)] #[], .int .u64 off] w fun e w' => e = .returned (.tuple #[.agg #[.int .u8 1, .slice none 0 0, .slice none 0 0], .bool true]) ∧ Below w.heap.size w w' := by
 have HL := Lib.hid HL
 go_enter Tryz.func104, Tryz.ntmps104
 go_wp2_with (go_at_call 61; refine (HL.out _ (by (repeat (first | with_reducible (first | exact Below.refl _ _ | refine bl_alloc ?_ _ | refine bl_drew ?_ | refine bl_drewN ?_ _ | refine bl_bx ?_ _ | exact BX.below _ | refine bl_set ?_ (by first | (exact Nat.le_refl _) | (simp; done) | (simp; omega)) _) | assumption)))).mono ?_; rintro e w' ⟨rfl, rfl⟩)
 exact bodyPost_ret (v := .tuple #[.agg #[.int .u8 1, .slice none 0 0, .slice none 0 0], .bool true]) (by simp [results, Tryz.results104, go_sem]) rfl ⟨rfl, (by (repeat (first | with_reducible (first | exact Below.refl _ _ | refine bl_alloc ?_ _ | refine bl_drew ?_ | refine bl_drewN ?_ _ | refine bl_bx ?_ _ | exact BX.below _ | refine bl_set ?_ (by first | (exact Nat.le_refl _) | (simp; done) | (simp; omega)) _) | assumption)))⟩
set_option maxRecDepth 100000 in
set_option maxHeartbeats 16000000 in
theorem rgAll_f (w : World) (line lines m : Nat) (size : Int) (hm : lines / 4 = m) (hl : line + lines < 1000) (gc : Nat) (HL : ∀ W, Below w.heap.size w W → ∀ k, k < m → Calls Tryz.prog 61 #[.pointer (some ⟨gc, 0, none⟩), .int .u64 (atW line k)] W fun e w' => e = .returned (.int .u64 1836515329) ∧ W = w') :
 Calls Tryz.prog 80 #[.agg #[.int .i64 (line : Int), .int .i64 (lines : Int), .int .u64 size], .func (.func 61) #[.pointer (some ⟨gc, 0, none⟩)] #[]] w fun e w' => ∃ A c, e = .returned (.tuple #[.slice A m c, .bool true]) ∧ Sl 156 3 w' A m c (recs m) ∧ Below w.heap.size w w' ∧ ∀ b, OwnB A b → w.heap.size ≤ b := by
 have HL := Lib.hid HL
 have HCO : Hid (∀ W, Calls Tryz.prog 52 #[.agg #[.int .i64 (line : Int), .int .i64 (lines : Int), .int .u64 size]] W fun e w' => e = .returned (.int .i64 (m : Int)) ∧ Below W.heap.size W w') := fun W => by
  have := rgCount W line lines size (by omega)
  rwa [hm] at this
 have HAT : Hid (∀ W k, k < m → Calls Tryz.prog 53 #[.agg #[.int .i64 (line : Int), .int .i64 (lines : Int), .int .u64 size], .int .i64 (k : Int)] W fun e w' => e = .returned (.int .u64 (atW line k)) ∧ Below W.heap.size W w') := fun W k hk => rgAt W line lines size k (by omega)
 have hm2 : m ≤ 250 := by omega
 clear hm hl
 go_enter Tryz.func80, Tryz.ntmps80
 go_wp2_with (go_at_call 52; refine (HCO.out _).mono ?_; rintro e w' ⟨rfl, hb⟩; obtain ⟨x, rfl⟩ := bx_of hb; clear hb)
 have hgx : w.heap.size < x.w.heap.size := x.lt_size (by simp)
 have z0 : x.w.cell? ⟨w.heap.size, 0, none⟩ = some (.int .i64 (line : Int)) := by go_simp
 have z1 : x.w.cell? ⟨w.heap.size, 1, none⟩ = some (.int .i64 (lines : Int)) := by go_simp
 have z2 : x.w.cell? ⟨w.heap.size, 2, none⟩ = some (.int .u64 size) := by go_simp
 have HBW0 : Hid (Below w.heap.size w x.w) := by show Below _ _ _; (repeat (first | with_reducible (first | exact Below.refl _ _ | refine bl_alloc ?_ _ | refine bl_drew ?_ | refine bl_drewN ?_ _ | refine bl_bx ?_ _ | exact BX.below _ | refine bl_set ?_ (by first | (exact Nat.le_refl _) | (simp; done) | (simp; omega)) _) | assumption))
 obtain ⟨W0, hW0⟩ : ∃ W0, x.w = W0 := ⟨_, rfl⟩
 obtain ⟨gr, hgr⟩ : ∃ gr, w.heap.size = gr := ⟨_, rfl⟩
 have HGR := Lib.hid hgr
 rw [hW0] at hgx z0 z1 z2 HBW0
 rw [hgr] at hgx z0 z1 z2
 rw [hW0, hgr]
 clear hW0 hgr
 go_loopw [12, 6, 7, 8, 9, 13, 14, 15, 16, 17, 18, 19, 20, 21, 22, 23, 24, 25, 26, 27, 28, 29, 30] (fun i' rc _ _ _ _ _ _ _ _ _ _ _ _ _ _ _ _ _ _ _ _ _ wr => ∃ (j : Nat) (A : Option Addr) (c : Nat), j ≤ m ∧ i' = .int .i64 j ∧ rc = .slice A j c ∧ Sl 156 3 wr A j c (recs j) ∧ Below W0.heap.size W0 wr ∧ ∀ b, OwnB A b → W0.heap.size ≤ b) (fun i' _ _ _ _ _ _ _ _ _ _ _ _ _ _ _ _ _ _ _ _ _ _ _ => m - (intOf i').toNat)
 case atStart => exact ⟨0, none, 0, by omega, rfl, rfl, Sl.nil, Below.refl _ _, by simp [OwnB]⟩
 case round =>
  obtain ⟨j, A, c, hj, rfl, rfl, hS, hB, hO⟩ := hrel
  have HS := Lib.hid hS
  have HB := Lib.hid hB
  have HO := Lib.hid hO
  have y0 := (hB.cell (p := ⟨gr, 0, none⟩) hgx).trans z0
  have y1 := (hB.cell (p := ⟨gr, 1, none⟩) hgx).trans z1
  have y2 := (hB.cell (p := ⟨gr, 2, none⟩) hgx).trans z2
  have hgw : gr < wr.heap.size := Nat.lt_of_lt_of_le hgx hB.size
  have HBA : Hid (Below w.heap.size w wr) := HBW0.out.trans (hB.mono HBW0.out.size)
  clear hS hB hO
  by_cases hlt : j < m
  · have hlt' : (j : Int) < (m : Int) := by omega
    have HATJ := Lib.hid (fun W => HAT.out W j hlt)
    have HLJ : Hid (∀ W, Below wr.heap.size wr W → ∀ W2, Below W.heap.size W W2 → Calls Tryz.prog 61 #[.pointer (some ⟨gc, 0, none⟩), .int .u64 (atW line j)] W2 fun e w' => e = .returned (.int .u64 1836515329) ∧ W2 = w') := fun W hW W2 hW2 => HL.out W2 ((HBA.out.trans (hW.mono HBA.out.size)).trans (hW2.mono (Nat.le_trans HBA.out.size hW.size))) j hlt
    obtain ⟨q, hq⟩ : ∃ q, atW line j = q := ⟨_, rfl⟩
    rw [hq] at HATJ HLJ
    clear hq
    go_wp2
    go_cut [8, 9] from 15 to 30 (fun s8 s9 wx => RecRel wr s8 s9 wx)
    case first =>
     go_region_held3 (fun w' => w'.cell? ⟨gr, 0, none⟩ = some (.int .i64 (line : Int)) ∧ w'.cell? ⟨gr, 1, none⟩ = some (.int .i64 (lines : Int)) ∧ w'.cell? ⟨gr, 2, none⟩ = some (.int .u64 size) ∧ gr < w'.heap.size ∧ Below wr.heap.size wr w')
      ((refine ⟨?_, ?_, ?_, ?_, ?_⟩ <;> first | assumption | ((repeat (first | with_reducible (first | exact Below.refl _ _ | refine bl_alloc ?_ _ | refine bl_drew ?_ | refine bl_drewN ?_ _ | refine bl_bx ?_ _ | exact BX.below _ | refine bl_set ?_ (by first | (exact Nat.le_refl _) | (simp; done) | (simp; omega)) _) | assumption)); done) | (refine bl_set (bl_set (bl_set ?_ hys _) hys _) hys _; (repeat (first | with_reducible (first | exact Below.refl _ _ | refine bl_alloc ?_ _ | refine bl_drew ?_ | refine bl_drewN ?_ _ | refine bl_bx ?_ _ | exact BX.below _ | refine bl_set ?_ (by first | (exact Nat.le_refl _) | (simp; done) | (simp; omega)) _) | assumption)); done) | (go_simp; done) | (simp; omega)))
      (first | (go_at_call 53; refine (HATJ.out _).mono ?_; rintro e w' ⟨rfl, hb⟩; obtain ⟨y, rfl⟩ := bx_of hb; clear hb; have hys : wr.heap.size ≤ y.w.heap.size := (by have h9 := y.size; first | exact h9 | (simp at h9; omega)); have hgy : gr < y.w.heap.size := y.lt_size (by first | exact hgw | (simp; omega)); have k0 : y.w.cell? ⟨gr, 0, none⟩ = some (.int .i64 (line : Int)) := (y.cell gr 0 (by first | exact hgw | (simp; omega))).trans (by first | exact y0 | go_simp); have k1 : y.w.cell? ⟨gr, 1, none⟩ = some (.int .i64 (lines : Int)) := (y.cell gr 1 (by first | exact hgw | (simp; omega))).trans (by first | exact y1 | go_simp); have k2 : y.w.cell? ⟨gr, 2, none⟩ = some (.int .u64 size) := (y.cell gr 2 (by first | exact hgw | (simp; omega))).trans (by first | exact y2 | go_simp)) | (go_at_call 104; refine (rgRead_f _ (line : Int) (lines : Int) size gc q (HLJ.out _ (by (repeat (first | with_reducible (first | exact Below.refl _ _ | refine bl_alloc ?_ _ | refine bl_drew ?_ | refine bl_drewN ?_ _ | refine bl_bx ?_ _ | exact BX.below _ | refine bl_set ?_ (by first | (exact Nat.le_refl _) | (simp; done) | (simp; omega)) _) | assumption))))).mono ?_; rintro e w' ⟨rfl, hb⟩; obtain ⟨yy, rfl⟩ := bx_of hb; clear hb; have hgz2 : gr < yy.w.heap.size := yy.lt_size (by first | exact hgy | (simp; omega)); have r0 : yy.w.cell? ⟨gr, 0, none⟩ = some (.int .i64 (line : Int)) := (yy.cell gr 0 (by first | exact hgy | (simp; omega))).trans (by first | exact k0 | go_simp); have r1 : yy.w.cell? ⟨gr, 1, none⟩ = some (.int .i64 (lines : Int)) := (yy.cell gr 1 (by first | exact hgy | (simp; omega))).trans (by first | exact k1 | go_simp); have r2 : yy.w.cell? ⟨gr, 2, none⟩ = some (.int .u64 size) := (yy.cell gr 2 (by first | exact hgy | (simp; omega))).trans (by first | exact k2 | go_simp)))
     all_goals go_wp2
     all_goals go_meet
     all_goals first
      | exact recRelA (by (repeat (first | with_reducible (first | exact Below.refl _ _ | refine bl_alloc ?_ _ | refine bl_drew ?_ | refine bl_drewN ?_ _ | refine bl_bx ?_ _ | exact BX.below _ | refine bl_set ?_ (by first | (exact Nat.le_refl _) | (simp; done) | (simp; omega)) _) | assumption)))
      | exact recRelB (by first | with_reducible exact (CB.new_at _ _ _ rfl).bx yy | with_reducible exact ((CB.new_at _ _ _ rfl).bx y).bx yy | exact (((CB.new_at _ _ _ rfl).drew).bx y).bx yy) (by (repeat (first | with_reducible (first | exact Below.refl _ _ | refine bl_alloc ?_ _ | refine bl_drew ?_ | refine bl_drewN ?_ _ | refine bl_bx ?_ _ | exact BX.below _ | refine bl_set ?_ (by first | (exact Nat.le_refl _) | (simp; done) | (simp; omega)) _) | assumption))) (by first | exact Nat.le_refl _ | exact hys | (simp; omega))
    case rest =>
     obtain ⟨gd, rfl, rfl, hCd, hBd⟩ := hcut
     have d0 : wc.cell? ⟨gd, 0, none⟩ = some (.int .u8 1) := hCd.cell 0
     have d1 : wc.cell? ⟨gd, 1, none⟩ = some (.slice none 0 0) := hCd.cell 1
     have d2 : wc.cell? ⟨gd, 2, none⟩ = some (.slice none 0 0) := hCd.cell 2
     have hgd : gd < wc.heap.size := hCd.lt
     have HBd := Lib.hid hBd
     clear hCd hBd y0 y1 y2
     go_wp2_with (at_builtin; refine wpList_append_sl rfl (.tmp 26) (.tmp 28) 148 rfl 156 (.agg #[.int .u8 0, .slice none 0 0, .slice none 0 0]) 3 56 rfl (by omega) Tryz.underlying148 info_rec (by omega) A j c (recs j) ⟨wc.heap.size, 0, none⟩ 1 1 [.int .u8 1, .slice none 0 0, .slice none 0 0] rfl rfl (HS.out.keep (fun b hb => (bl_alloc HBd.out _).block b (HS.out.lt hb))) rfl (by omega) (cells_three wc 156 _ _ _) rec_one (by omega) ?_; intro A4 c4 w4 HO4 HC4 HW4 HG4)
     go_roundw
     case rel =>
      refine ⟨j + 1, A4, c4, by omega, by go_num, rfl, ?_, ?_, fun b hb => ?_⟩
      · rw [recs_succ]; exact HO4.out
      · exact bl_ch (HB.out.trans ((bl_alloc HBd.out _).mono HB.out.size)) HC4.out (fun b hb => HO.out b hb)
      · have h1 := HB.out.size
        have h2 := HBd.out.size
        rcases HW4.out b hb with h | h
        · exact HO.out b h
        · rw [h]; simp; omega
     case measure => simp [intOf]; omega
  · obtain rfl : j = m := by omega
    clear y0 y1 y2
    go_wp2
    refine bodyPost_ret (v := .tuple #[.slice A j c, .bool true]) (by simp [results, Tryz.results80, go_sem]) rfl ⟨A, c, rfl, HS.out, HBA.out, fun b hb => by have := HO.out b hb; have := HBW0.out.size; omega⟩
section
variable {K : Nat → Prop} {p d n N : Nat} {t : Nat → Nat} {w w' : World} {σ : PwS} {xs : List Int}
set_option maxRecDepth 100000 in
set_option maxHeartbeats 2000000 in
theorem pwFree {line lines : Nat} {size : Int} (H : PMx K p d t line lines size w σ) (m : Nat) (hm : m ≤ 1000) (hb : σ.busy = List.replicate m false) : Calls Tryz.prog 81 #[.pointer (some ⟨p, 0, none⟩)] w fun e w' => e = .returned (.int .i64 (m : Int)) ∧ w = w' := by
 obtain ⟨bb, h1, h2, h3, h4, h5⟩ := H.plc
 have hl : (List.replicate m false).length = m := List.length_replicate ..
 rw [hb, hl] at h4 h5
 have z4 := h4.cell 4
 have HS := Lib.hid h5
 have HL := Lib.hid hl
 clear H hb h4 h5 hl
 go_enter Tryz.func81, Tryz.ntmps81
 go_wp2
 go_loopw [13, 3, 5, 14, 15, 16, 17, 18, 19, 20, 21] (fun i c _ _ _ _ _ _ _ _ _ wr => ∃ j : Nat, j ≤ m ∧ i = .int .i64 j ∧ c = .int .i64 j ∧ w = wr) (fun i _ _ _ _ _ _ _ _ _ _ _ => m - (intOf i).toNat)
 case atStart => exact ⟨0, by omega, rfl, rfl, rfl⟩
 case round =>
  obtain ⟨j, hj, rfl, rfl, rfl⟩ := hrel
  by_cases hlt : j < m
  · have hlt' : (j : Int) < (m : Int) := by omega
    obtain ⟨g, off, hA, hg, hc⟩ := HS.out.at_ (j := j) (by simpa [bools] using hlt)
    have hvv : (bools (List.replicate m false))[j]'(by simpa [bools] using hlt) = .bool false := by simp [bools]
    rw [hvv] at hc
    simp only [Option.some.injEq] at hA
    go_wp2
    go_roundw
    case rel => exact ⟨j + 1, by omega, by first | (simp; done) | go_num⟩
    case measure => simp [intOf]; omega
  · obtain rfl : j = m := by omega
    go_wp2
    go_ret
    exact ⟨rfl, rfl⟩
theorem recs_at (m j : Nat) (hj : j < m) : (recs m)[j * 3]? = some (.int .u8 1) ∧ (recs m)[j * 3 + 1]? = some (.slice none 0 0) ∧ (recs m)[j * 3 + 2]? = some (.slice none 0 0) := by
 induction m with
 | zero => omega
 | succ m ih =>
   rw [recs_succ]
   have hl := length_recs m
   by_cases h : j < m
   · have hx := ih h
     rw [List.getElem?_append_left (by omega), List.getElem?_append_left (by omega), List.getElem?_append_left (by omega)]
     exact hx
   · obtain rfl : j = m := by omega
     rw [List.getElem?_append_right (by omega), List.getElem?_append_right (by omega), List.getElem?_append_right (by omega), hl]
     simp
theorem recs_cells {A : Option Addr} {m c j : Nat} (h : Sl 156 3 w A m c (recs m)) (hj : j < m) : ∃ g off, A = some ⟨g, off, none⟩ ∧ g < w.heap.size ∧ w.cell? ⟨g, off + j * 3, none⟩ = some (.int .u8 1) ∧ w.cell? ⟨g, off + j * 3 + 1, none⟩ = some (.slice none 0 0) ∧ w.cell? ⟨g, off + j * 3 + 2, none⟩ = some (.slice none 0 0) := by
 have hl := length_recs m
 obtain ⟨a1, a2, a3⟩ := recs_at m j hj
 obtain ⟨g, off, hA, hg, hc⟩ := h.at_ (j := j * 3) (by omega)
 obtain ⟨g1, off1, hA1, _, hc1⟩ := h.at_ (j := j * 3 + 1) (by omega)
 obtain ⟨g2, off2, hA2, _, hc2⟩ := h.at_ (j := j * 3 + 2) (by omega)
 rw [hA] at hA1 hA2
 simp only [Option.some.injEq, Addr.mk.injEq] at hA1 hA2
 obtain ⟨rfl, rfl, _⟩ := hA1
 obtain ⟨rfl, rfl, _⟩ := hA2
 refine ⟨g, off, hA, hg, ?_, ?_, ?_⟩
 · rw [hc]; exact (List.getElem?_eq_getElem (by omega)).symm.trans a1
 · rw [show off + j * 3 + 1 = off + (j * 3 + 1) by omega, hc1]; exact (List.getElem?_eq_getElem (by omega)).symm.trans a2
 · rw [show off + j * 3 + 2 = off + (j * 3 + 2) by omega, hc2]; exact (List.getElem?_eq_getElem (by omega)).symm.trans a3
/-- What Recover leaves of a pool without operations. -/
def RecP (K : Nat → Prop) (p d n : Nat) (t : Nat → Nat) (w : World) (σ : PwS) (e : Ending) (w' : World) : Prop :=
 e = .returned (.tuple #[.int .i64 0, .int .i64 0]) ∧ PMx K p d t 0 32 ((n : Int) * 64) w' σ ∧ Ch (fun b => ¬ K b) w w'
set_option maxRecDepth 100000 in
set_option maxHeartbeats 4000000 in
theorem pwRecover (H : PMx K p d t 0 32 ((n : Int) * 64) w σ) (hn : n < 1000) (hon : On σ.dev n xs N) (hb : σ.busy = List.replicate 8 false) (hc : σ.cur = none) (hu : ∀ k, k < 8 → xs[8 * (0 + 4 * k)]? = some 1836515329) :
 Calls Tryz.prog 58 #[.pointer (some ⟨p, 0, none⟩), .int .i64 0] w (RecP K p d n t w σ) := by
 have HTH : Hid (Calls Tryz.prog 35 #[.pointer (some ⟨d, 0, none⟩), .int .i64 0] w fun e w' => e = .returned (.pointer (some ⟨t 0, 0, none⟩)) ∧ w = w') := by
  obtain ⟨role, bb, h, hK⟩ := H
  exact vThread h.dv 0 (by omega)
 have HERR : Hid (∀ W, Below w.heap.size w W → Calls Tryz.prog 62 #[.pointer (some ⟨t 0, 0, none⟩)] W fun e w' => e = .returned (.int .i64 0) ∧ Below W.heap.size W w') := fun W hW => by
  have := (H.bl0 hW).err 0 (by omega)
  rw [hon.err 0] at this
  exact this.mono (fun e w' hx => ⟨hx.1, by obtain ⟨_, rfl⟩ := hx; exact Below.refl _ _⟩)
 have HFR : Hid (∀ W, Below w.heap.size w W → Calls Tryz.prog 81 #[.pointer (some ⟨p, 0, none⟩)] W fun e w' => e = .returned (.int .i64 8) ∧ W = w') := fun W hW => pwFree (H.bl0 hW) 8 (by omega) hb
 have HALL : Hid (∀ W, Below w.heap.size w W → Calls Tryz.prog 80 #[.agg #[.int .i64 0, .int .i64 32, .int .u64 ((n : Int) * 64)], .func (.func 61) #[.pointer (some ⟨t 0, 0, none⟩)] #[]] W fun e w' => ∃ A c, e = .returned (.tuple #[.slice A 8 c, .bool true]) ∧ Sl 156 3 w' A 8 c (recs 8) ∧ Below W.heap.size W w' ∧ ∀ b, OwnB A b → W.heap.size ≤ b) := fun W hW =>
  rgAll_f W 0 32 8 ((n : Int) * 64) rfl (by omega) (t 0) (fun W2 hW2 k hk => by
   obtain ⟨role, bb, h, hK⟩ := H.bl0 (hW.trans (hW2.mono hW.size))
   have := vLoad h.dv 0 (by omega) hon.off (8 * (0 + 4 * k)) 1836515329 (by rw [hon.cur]; exact hu k hk)
   exact this)
 have HSET : Hid (∀ W, Below w.heap.size w W → PMx K p d t 0 32 ((n : Int) * 64) (W.setCell ⟨p, 5, none⟩ (.pointer none)) σ ∧ Ch (fun b => ¬ K b) w (W.setCell ⟨p, 5, none⟩ (.pointer none))) := fun W hW => by
  have := (H.bl0 hW).curSet none
  have e : ({ σ with cur := none } : PwS) = σ := by rw [← hc]
  rw [e] at this
  exact ⟨this.1, (Ch.of_below (S := fun b => ¬ K b) hW).trans this.2 (fun b hb _ => hb)⟩
 obtain ⟨bb, h1, h2, h3, h4, h5⟩ := H.plc
 rw [hb] at h4
 have z0 := h4.cell 0
 have z1 := h4.cell 1
 have z2 := h4.cell 2
 have z3 := h4.cell 3
 have z4 := h4.cell 4
 have z5 := h4.cell 5
 have f5 := h4.frozen 5
 have HP := Lib.hid (show w.cell? ⟨p, 5, none⟩ = some (optP σ.cur) ∧ w.frozen? ⟨p, 5, none⟩ = false from ⟨z5, f5⟩)
 clear H hon hb hc hu h4 h5 z5 f5
 go_enter Tryz.func58, Tryz.ntmps58
 go_upto_region 7 with (first
  | (go_at_call 35; refine HTH.out.mono ?_; rintro e w' ⟨rfl, rfl⟩)
  | (go_at_call 62; refine (HERR.out _ (Below.refl _ _)).mono ?_; rintro e w' ⟨rfl, hb⟩; obtain ⟨x, rfl⟩ := bx_of hb; clear hb))
 go_quiet ((go_at_call 81; with_reducible exact q_same (HFR.out _ (by (repeat (first | with_reducible (first | exact Below.refl _ _ | refine bl_alloc ?_ _ | refine bl_drew ?_ | refine bl_drewN ?_ _ | refine bl_bx ?_ _ | exact BX.below _ | refine bl_set ?_ (by first | (exact Nat.le_refl _) | (simp; done) | (simp; omega)) _) | assumption))))))
 all_goals go_wp2_with (first
  | (go_at_call 80; refine (HALL.out _ (by (repeat (first | with_reducible (first | exact Below.refl _ _ | refine bl_alloc ?_ _ | refine bl_drew ?_ | refine bl_drewN ?_ _ | refine bl_bx ?_ _ | exact BX.below _ | refine bl_set ?_ (by first | (exact Nat.le_refl _) | (simp; done) | (simp; omega)) _) | assumption)))).mono ?_; rintro e w' ⟨A, c, rfl, hS, hb, hO⟩; have HS := Lib.hid hS; have HO := Lib.hid hO; obtain ⟨z, rfl⟩ := bx_of hb; clear hb hS hO)
  | (go_at_call 62; refine (HERR.out _ (by (repeat (first | with_reducible (first | exact Below.refl _ _ | refine bl_alloc ?_ _ | refine bl_drew ?_ | refine bl_drewN ?_ _ | refine bl_bx ?_ _ | exact BX.below _ | refine bl_set ?_ (by first | (exact Nat.le_refl _) | (simp; done) | (simp; omega)) _) | assumption)))).mono ?_; rintro e w' ⟨rfl, hb⟩; obtain ⟨u, rfl⟩ := bx_of hb; clear hb))
 have HBU : Hid (Below w.heap.size w u.w) := by show Below _ _ _; (repeat (first | with_reducible (first | exact Below.refl _ _ | refine bl_alloc ?_ _ | refine bl_drew ?_ | refine bl_drewN ?_ _ | refine bl_bx ?_ _ | exact BX.below _ | refine bl_set ?_ (by first | (exact Nat.le_refl _) | (simp; done) | (simp; omega)) _) | assumption))
 have HSU : Hid (Sl 156 3 u.w A 8 c (recs 8)) := HS.out.keep (fun b hb => u.below.block b (HS.out.lt hb))
 obtain ⟨W0, hW0⟩ : ∃ W0, u.w = W0 := ⟨_, rfl⟩
 rw [hW0] at HBU HSU
 rw [hW0]
 clear hW0 HS HO
 go_loopw [64, 11, 12, 13, 65, 66, 67, 68, 69, 70, 71, 94] (fun i n _ _ _ _ _ _ _ _ _ _ wr => ∃ j : Nat, j ≤ 8 ∧ i = .int .i64 j ∧ n = .int .i64 0 ∧ Below W0.heap.size W0 wr) (fun i _ _ _ _ _ _ _ _ _ _ _ _ => 8 - (intOf i).toNat)
 case atStart => exact ⟨0, by omega, rfl, rfl, Below.refl _ _⟩
 case round =>
  obtain ⟨j, hj, rfl, rfl, hB⟩ := hrel
  have HB := Lib.hid hB
  by_cases hlt : j < 8
  · have hlt' : (j : Int) < 8 := by omega
    obtain ⟨g, off, rfl, hg, r0, r1, r2⟩ := recs_cells HSU.out hlt
    have y0 := (hB.cell (p := ⟨g, _, none⟩) hg).trans r0
    have y1 := (hB.cell (p := ⟨g, _, none⟩) hg).trans r1
    have y2 := (hB.cell (p := ⟨g, _, none⟩) hg).trans r2
    have hgr : g < wr.heap.size := Nat.lt_of_lt_of_le hg hB.size
    clear hB r0 r1 r2 hg z0 z1 z2 z3 z4
    go_wp2
    go_roundw
    case rel => exact ⟨j + 1, by omega, by go_num, rfl, HB.out.trans ((by (repeat (first | with_reducible (first | exact Below.refl _ _ | refine bl_alloc ?_ _ | refine bl_drew ?_ | refine bl_drewN ?_ _ | refine bl_bx ?_ _ | exact BX.below _ | refine bl_set ?_ (by first | (exact Nat.le_refl _) | (simp; done) | (simp; omega)) _) | assumption)) : Below wr.heap.size wr _).mono HB.out.size)⟩
    case measure => simp [intOf]; omega
  · obtain rfl : j = 8 := by omega
    have hBB := HBU.out.trans (hB.mono HBU.out.size)
    have HS2 := Lib.hid (HSET.out wr hBB)
    have y5 := (hBB.cell (p := ⟨p, 5, none⟩) h1).trans HP.out.1
    have yf := (hBB.frozen (p := ⟨p, 5, none⟩) h1).trans HP.out.2
    have hpr : p < wr.heap.size := Nat.lt_of_lt_of_le h1 hBB.size
    clear hB hBB z0 z1 z2 z3 z4
    go_wp2
    exact bodyPost_ret (v := .tuple #[.int .i64 0, .int .i64 0]) (by simp [results, Tryz.results58, go_sem]) rfl ⟨rfl, HS2.out⟩
end
section
variable {K : Nat → Prop} {p d q n lines P N f : Nat} {t : Nat → Nat} {bs : Nat → Option Nat} {w w' : World} {σ : PwS} {xs : List Int}
/-- What a new handle gives. -/
def OpP30 (d p lines : Nat) (w : World) (e : Ending) (w' : World) : Prop :=
 ∃ q, e = .returned (.tuple #[.pointer (some ⟨q, 0, none⟩), .int .i64 0]) ∧ w.heap.size ≤ q ∧ CB w' q 93 (qcells d p 2048 lines (fun _ => none)) ∧ Below w.heap.size w w'
theorem QEm.at_ (he : QEm xs lines P) {k : Nat} (hk : Mq 256 P k) (hl : lines ≤ 100) : xs[k]? = some (xs.getD k 0) ∧ 0 ≤ xs.getD k 0 ∧ xs.getD k 0 < 4611686018427387904 := by
 unfold Mq at hk
 have : ∀ v : Int, xs[k]? = some v → 0 ≤ v → v < 4611686018427387904 → xs[k]? = some (xs.getD k 0) ∧ 0 ≤ xs.getD k 0 ∧ xs.getD k 0 < 4611686018427387904 := fun v hv h1 h2 => by
  rw [List.getD_eq_getElem?_getD, hv]; exact ⟨rfl, h1, h2⟩
 by_cases h0 : k = 256
 · subst h0; exact this _ he.mark (by omega) (by omega)
 · by_cases h1 : k = 257
   · subst h1; exact this _ he.ln (by omega) (by omega)
   · exact this _ (he.zero k (by omega) (by omega)) (by omega) (by omega)
theorem QEm.z (he : QEm xs lines P) {k : Nat} (h1 : 258 ≤ k) (h2 : k < 264 + P) : xs.getD k 0 = 0 := by
 rw [List.getD_eq_getElem?_getD, he.zero k h1 h2]; rfl
theorem QEm.ab (he : QEm xs lines P) (hP : 0 < P) : QAb 256 P (fun k => xs.getD k 0) 0 [] := by
 refine ⟨hP, by simp, ?_, ?_, fun i hi => by simp at hi, fun i _ hi => ?_⟩
 · show xs.getD 258 0 % _ = _
   rw [he.z (by omega) (by omega)]; rfl
 · show xs.getD 259 0 % _ = _
   rw [he.z (by omega) (by omega)]; rfl
 · show xs.getD (qpW 256 P (0 + i)) 0 % _ = _
   have := Nat.mod_lt (0 + i) hP
   rw [he.z (by unfold qpW; omega) (by unfold qpW; omega)]; rfl
theorem QEm.quV {q : Nat} (he : QEm xs lines P) (H : PMx K p d t 0 32 ((n : Int) * 64) w σ) (hon : On σ.dev n xs N) (hn : n < 1000) (hP : 8 * (lines - 1) = P ∧ 4 ≤ lines ∧ lines ≤ 100) (hn2 : 264 + P = 8 * n) (hq : CB w q 93 (qcells d p 2048 lines bs)) : QuV K p d q n lines P t bs w σ xs N (fun k => xs.getD k 0) 0 [] :=
 ⟨H, hon, hq, hn, ⟨hP.1, by omega, by omega⟩, hn2, fun k hk => (he.at_ hk hP.2.2).1, fun k hk => (he.at_ hk hP.2.2).2, he.ab (by omega)⟩
set_option maxRecDepth 100000 in
set_option maxHeartbeats 4000000 in
theorem quOpen (H : PMx K p d t 0 32 ((n : Int) * 64) w σ) (hon : On σ.dev n xs N) (hn : n < 1000) (hP : 8 * (lines - 1) = P ∧ 4 ≤ lines ∧ lines ≤ 100) (hn2 : 264 + P = 8 * n) (he : QEm xs lines P) :
 Calls Tryz.prog 59 #[.pointer (some ⟨d, 0, none⟩), .pointer (some ⟨p, 0, none⟩), .int .i64 32, .int .i64 (lines : Int)] w (OpP30 d p lines w) := by
 have HSZ : Hid (Calls Tryz.prog 77 #[.pointer (some ⟨d, 0, none⟩)] w fun e w' => e = .returned (.int .u64 ((n : Int) * 64)) ∧ w = w') := by
  obtain ⟨role, bb, h, hK⟩ := H
  have := vDevSize h.dv
  rwa [hon.nl] at this
 have HIN : Hid (Calls Tryz.prog 56 #[.int .i64 32, .int .i64 (lines : Int), .int .u64 ((n : Int) * 64)] w fun e w' => e = .returned (.bool true) ∧ w = w') := quInside w 32 lines n (by omega) hP.2.1 (by omega) hn
 have HTH : Hid (Calls Tryz.prog 35 #[.pointer (some ⟨d, 0, none⟩), .int .i64 0] w fun e w' => e = .returned (.pointer (some ⟨t 0, 0, none⟩)) ∧ w = w') := by
  obtain ⟨role, bb, h, hK⟩ := H
  exact vThread h.dv 0 (by omega)
 have HERR : Hid (∀ W, Below w.heap.size w W → Calls Tryz.prog 62 #[.pointer (some ⟨t 0, 0, none⟩)] W fun e w' => e = .returned (.int .i64 0) ∧ W = w') := fun W hW => by
  have := (H.bl0 hW).err 0 (by omega)
  rwa [hon.err 0] at this
 have HSO : Hid (∀ W q, Below w.heap.size w W → CB W q 93 (qcells d p 2048 lines (fun _ => none)) → Calls Tryz.prog 83 #[.pointer (some ⟨q, 0, none⟩)] W fun e w' => e = .returned (.bool true) ∧ Below W.heap.size W w') := fun W q hW hq =>
  quSound (he.quV (H.bl0 hW) hon hn hP hn2 hq) he hP.2.2
 have e1 : IntKind.u64.wrap 32 = 32 := rfl
 have e2 : IntKind.u64.wrap (32 * 64) = 2048 := rfl
 clear H hon he hP hn2
 unfold OpP30
 go_enter Tryz.func59, Tryz.ntmps59
 go_wp2_with (first
  | (go_at_call 77; (with_reducible refine HSZ.out.mono ?_); rintro e w' ⟨rfl, rfl⟩)
  | (go_at_call 56; (with_reducible refine HIN.out.mono ?_); rintro e w' ⟨rfl, rfl⟩)
  | (go_at_call 35; (with_reducible refine HTH.out.mono ?_); rintro e w' ⟨rfl, rfl⟩)
  | (go_at_call 62; (with_reducible refine (HERR.out _ (by (repeat (first | with_reducible (first | exact Below.refl _ _ | refine bl_alloc ?_ _ | refine bl_drew ?_ | refine bl_drewN ?_ _ | refine bl_bx ?_ _ | exact BX.below _ | refine bl_set ?_ (by first | (exact Nat.le_refl _) | (simp; done) | (simp; omega)) _) | assumption)))).mono ?_); rintro e w' ⟨rfl, rfl⟩)
  | (go_at_call 83; refine (HSO.out _ w.heap.size (by (repeat (first | with_reducible (first | exact Below.refl _ _ | refine bl_alloc ?_ _ | refine bl_drew ?_ | refine bl_drewN ?_ _ | refine bl_bx ?_ _ | exact BX.below _ | refine bl_set ?_ (by first | (exact Nat.le_refl _) | (simp; done) | (simp; omega)) _) | assumption))) (CB.new _ _ _)).mono ?_; rintro e w' ⟨rfl, hb⟩; have HB := Lib.hid hb; obtain ⟨x, rfl⟩ := bx_of hb; clear hb))
 refine bodyPost_ret (v := .tuple #[.pointer (some ⟨w.heap.size, 0, none⟩), .int .i64 0]) (by simp [results, Tryz.results59, go_sem]) rfl ⟨w.heap.size, rfl, Nat.le_refl _, (CB.new _ _ _).below HB.out, by (repeat (first | with_reducible (first | exact Below.refl _ _ | refine bl_alloc ?_ _ | refine bl_drew ?_ | refine bl_drewN ?_ _ | refine bl_bx ?_ _ | exact BX.below _ | refine bl_set ?_ (by first | (exact Nat.le_refl _) | (simp; done) | (simp; omega)) _) | assumption))⟩
end
theorem applyW_fits30 (ws : List (Int × Int)) (hw : ∀ p ∈ ws, 0 ≤ p.2 ∧ p.2 < 18446744073709551616) : ∀ xs, Fits xs → Fits (applyW xs ws) := by
 induction ws with
 | nil => intro xs h; exact h
 | cons p ws ih =>
   intro xs h
   have e : applyW xs (p :: ws) = applyW (xs.set (p.1 / 8).toNat p.2) ws := rfl
   rw [e]
   refine ih (fun q hq => hw q (by simp [hq])) _ (fun x hx => ?_)
   rcases List.mem_or_eq_of_mem_set hx with hx | hx
   · exact h x hx
   · rw [hx]; exact hw p (by simp)
theorem new_clean30 (xs : List Int) (n : Nat) (hx : xs.length = 8 * n) : Clean (newS xs n) n xs 0 := by
 have h := new_on xs n hx
 refine ⟨h.good, h.nl, rfl, rfl, rfl, rfl, fun q l hl => ?_, fun _ => rfl, fun _ _ => rfl⟩
 simp only [newS, List.getElem?_replicate] at hl
 split at hl
 · injection hl with hl; rw [← hl]
 · cases hl
theorem applyW_idx30 (idx : Nat → Nat) (hinj : ∀ i j, idx i = idx j → i = j) (f : Nat → Int) (xs : List Int) : ∀ m j, j < m → idx j < xs.length → (applyW xs ((List.range m).map fun j => (8 * ((idx j : Nat) : Int), f j)))[idx j]? = some (f j)
 | 0, j, h, _ => by omega
 | m + 1, j, h, hl => by
   rw [List.range_succ, List.map_append, List.map_cons, List.map_nil, applyW_snoc]
   have e : (8 * ((idx m : Nat) : Int) / 8).toNat = idx m := by omega
   rw [e, List.getElem?_set]
   by_cases hj : j = m
   · subst hj
     rw [if_pos rfl, if_pos (by rw [length_applyW]; exact hl)]
   · rw [if_neg (fun he => hj (hinj _ _ he.symm))]
     exact applyW_idx30 idx hinj f xs m j (by omega) hl
/-- The words of a new queue. -/
def xsB (lines : Nat) : List Int := quXs (applyW (List.replicate (8 * (32 + lines)) 0) (fmt17 0 8)) lines
theorem length_xsB (lines : Nat) : (xsB lines).length = 8 * (32 + lines) := by unfold xsB quXs; simp only [length_applyW, List.length_replicate]
theorem qfm_eq (lines : Nat) : qfm lines = (List.range (8 * lines - 1)).map fun k => (8 * ((257 + k : Nat) : Int), if k = 0 then (lines : Int) else 0) := by
 unfold qfm
 refine List.map_congr_left (fun k _ => ?_)
 have : (2056 + 8 * (k : Int)) = 8 * ((257 + k : Nat) : Int) := by omega
 rw [this]
theorem xsB_un (lines : Nat) (k : Nat) (hk : k < 8) : (xsB lines)[8 * (0 + 4 * k)]? = some 1836515329 := by
 unfold xsB quXs
 rw [applyW_none _ _ (fun p hp => by simp at hp; rw [hp]; show ((2048 : Int) / 8).toNat ≠ _; omega),
  applyW_none _ _ (fun p hp => by obtain ⟨j, _, hj⟩ := qfm_mem hp; rw [hj]; omega),
  applyW_none _ _ (fun p hp => by simp at hp; rw [hp]; show ((2048 : Int) / 8).toNat ≠ _; omega)]
 exact applyW_idx30 (fun k => 8 * (0 + 4 * k)) (fun i j h => by have h' : 8 * (0 + 4 * i) = 8 * (0 + 4 * j) := h; omega) (fun _ => 1836515329) (List.replicate (8 * (32 + lines)) 0) 8 k hk (by rw [List.length_replicate]; show 8 * (0 + 4 * k) < _; omega)
theorem xsB_em (lines : Nat) (h : 4 ≤ lines) : QEm (xsB lines) lines (8 * (lines - 1)) := by
 have hz : ∀ k, k < 8 * lines - 1 → (xsB lines)[257 + k]? = some (if k = 0 then (lines : Int) else 0) := fun k hk => by
  unfold xsB quXs
  rw [applyW_none _ _ (fun p hp => by simp at hp; rw [hp]; show ((2048 : Int) / 8).toNat ≠ _; omega), qfm_eq]
  exact applyW_idx30 (fun k => 257 + k) (fun i j h => by have h' : 257 + i = 257 + j := h; omega) (fun k => if k = 0 then (lines : Int) else 0) _ (8 * lines - 1) k hk (by rw [length_applyW, length_applyW, List.length_replicate]; show 257 + k < _; omega)
 refine ⟨?_, hz 0 (by omega), fun k h1 h2 => ?_⟩
 · unfold xsB quXs
   have hl : 256 < (applyW (applyW (applyW (List.replicate (8 * (32 + lines)) 0) (fmt17 0 8)) [(2048, 0)]) (qfm lines)).length := by
    rw [length_applyW, length_applyW, length_applyW, List.length_replicate]; omega
   show ((applyW (applyW (applyW (List.replicate (8 * (32 + lines)) 0) (fmt17 0 8)) [(2048, 0)]) (qfm lines)).set 256 349322958149)[256]? = _
   rw [List.getElem?_set_self hl]
 · have := hz (k - 257) (by omega)
   rw [show 257 + (k - 257) = k by omega, if_neg (by omega)] at this
   exact this
theorem xsB_fits (lines : Nat) (h : lines < 1000) : Fits (xsB lines) := by
 unfold xsB quXs
 refine applyW_fits30 _ (fun p hp => ?_) _ (applyW_fits30 _ (fun p hp => ?_) _ (applyW_fits30 _ (fun p hp => ?_) _ (applyW_fits30 _ (fun p hp => ?_) _ (fun x hx => ?_))))
 · simp at hp; rw [hp]; exact ⟨by decide, by decide⟩
 · unfold qfm at hp
   obtain ⟨k, _, rfl⟩ := List.mem_map.1 hp
   dsimp only
   split <;> omega
 · simp at hp; rw [hp]; exact ⟨by decide, by decide⟩
 · unfold fmt17 at hp
   obtain ⟨k, _, rfl⟩ := List.mem_map.1 hp
   exact ⟨by show (0 : Int) ≤ 1836515329; omega, by show (1836515329 : Int) < 18446744073709551616; omega⟩
 · have := List.eq_of_mem_replicate hx
   rw [this]; exact ⟨by decide, by decide⟩
section
variable {K F : Nat → Prop} {p d q n lines P N f : Nat} {t : Nat → Nat} {bs : Nat → Option Nat} {w w' : World} {σ : PwS} {xs : List Int} {S : DevS}
/-- What open leaves. -/
def OpenP30 (K : Nat → Prop) (d n lines : Nat) (t : Nat → Nat) (S : DevS) (w : World) (e : Ending) (w' : World) : Prop :=
 ∃ p q, e = .returned (.tuple #[.pointer (some ⟨q, 0, none⟩), .pointer (some ⟨p, 0, none⟩), .bool true]) ∧ PMx (fun b => K b ∨ b = q) p d t 0 32 ((n : Int) * 64) w' { dev := S, busy := List.replicate 8 false, cur := none, ops := fun _ => none } ∧
  CB w' q 93 (qcells d p 2048 lines (fun _ => none)) ∧ w.heap.size ≤ q ∧ Ch (fun b => ¬ K b) w w'
set_option maxRecDepth 100000 in
set_option maxHeartbeats 4000000 in
theorem fopen30 (h : DV F d t w S) (hcl : Clean S n xs N) (hnl : 32 + lines = n) (h4 : 4 ≤ lines ∧ lines ≤ 7) (hlx : xs.length = 8 * n) (hfx : Fits xs) (hu : ∀ k, k < 8 → xs[8 * (0 + 4 * k)]? = some 1836515329) (he : QEm xs lines (8 * (lines - 1))) (hK : ∀ b, K b → b < w.heap.size ∧ ¬ F b) :
 Calls Tryz.prog 37 #[.pointer (some ⟨d, 0, none⟩), .int .i64 (lines : Int)] w (OpenP30 K d n lines t S w) := by
 have hon : On S n xs N := ⟨hcl.good, hcl.nl, hcl.cur, hcl.off, hcl.armed, hcl.err⟩
 have HPO : Hid (Calls Tryz.prog 57 #[.pointer (some ⟨d, 0, none⟩), .int .i64 0, .int .i64 32] w (OpnPost w d 0 32 8 ((n : Int) * 64))) := pwOpen h hcl.cur hcl.nl hlx hfx 0 32 8 rfl (by omega) (by omega) (by omega) hu
 have HNEW := Lib.hid (fun (w5 : World) (p bb : Nat) (hB : Below w.heap.size w w5) hp hb hpw hbw hne => PMx.new (K := K) (w' := w5) (p := p) (bb := bb) (m := 8) (line := 0) (lines := 32) (size := (n : Int) * 64) h hB hp hb hpw hbw hne hK)
 have HON := Lib.hid hon
 have HU := Lib.hid hu
 have HE := Lib.hid he
 have HN := Lib.hid (And.intro hnl h4)
 clear h hcl hlx hfx hu he hon hnl h4
 go_enter Tryz.func37, Tryz.ntmps37
 go_wp2_with (first
  | (go_at_call 57; (with_reducible refine HPO.out.mono ?_); rintro e w5 ⟨p, bb, rfl, hp, hbz, hpw, hbw, hne, hb5⟩; have HB5 := Lib.hid hb5; have HP5 := Lib.hid (HNEW.out w5 p bb hb5 hp hbz hpw hbw hne); clear hp hbz hpw hbw hne hb5)
  | (go_at_call 58; (with_reducible refine (pwRecover HP5.out (by have := HN.out; omega) HON.out rfl rfl HU.out).mono ?_); rintro e w6 ⟨rfl, hp6, hc6⟩; have HP6 := Lib.hid hp6; have HC6 := Lib.hid hc6; clear hp6 hc6)
  | (go_at_call 59; (with_reducible refine (quOpen HP6.out HON.out (by have := HN.out; omega) ⟨rfl, by have := HN.out; omega, by have := HN.out; omega⟩ (by have := HN.out; omega) HE.out).mono ?_); rintro e w7 ⟨q, rfl, hq, hcq, hb7⟩; have HQ := Lib.hid (And.intro hq hcq); have HB7 := Lib.hid hb7; clear hq hcq hb7))
 refine bodyPost_ret (v := .tuple #[.pointer (some ⟨q, 0, none⟩), .pointer (some ⟨p, 0, none⟩), .bool true]) (by simp [results, Tryz.results37, go_sem]) rfl ?_
 obtain ⟨hq, hcq⟩ := HQ.out
 have hC : Ch (fun b => ¬ K b) w w7 := ((Ch.of_below (S := fun b => ¬ K b) HB5.out).trans HC6.out (fun b hb _ => hb)).trans (Ch.of_below HB7.out) (fun b hb _ => hb)
 refine ⟨p, q, rfl, (HP6.out.bl HB7.out).less (fun b hb => ?_), hcq, by have := HB5.out.size; have := HC6.out.size; omega, hC⟩
 rcases hb with hb | hb
 · exact .inl hb
 · right; subst hb; exact ⟨hq, hcq.lt⟩
/-- The roles of blocks behind Begin. -/
def rolB (w : World) (q : Nat) : Nat → Nat := fun b => if b = q then 2 else if b < w.heap.size then 1 else 0
/-- What Begin leaves. -/
def BegP30 (z : Int) (w : World) (e : Ending) (w' : World) : Prop :=
 ∃ (d p q n lines : Nat) (t : Nat → Nat) (σ : PwS) (N : Nat) (xs : List Int) (L : Nat → Int), e = .returned (.tuple #[.pointer (some ⟨d, 0, none⟩), .pointer (some ⟨q, 0, none⟩), .int .i64 (lines : Int)]) ∧ (lines : Int) = 4 + z % 4 ∧ w.heap.size ≤ q ∧ q < w'.heap.size ∧ QuM (rolB w q) p d q n lines (8 * (lines - 1)) t (fun _ => none) w' σ ∧
  QW sumI (atW 0) n 256 (8 * (lines - 1)) [] σ [] N 0 xs L [] ∧ N ≤ 400 ∧ Below w.heap.size w w'
set_option maxRecDepth 100000 in
set_option maxHeartbeats 4000000 in
theorem fBegin30 (w : World) (hT : Tab w) (z : Int) (hz : -9223372036854775808 ≤ z ∧ z < 9223372036854775808) : Calls Tryz.prog 10 #[.int .i64 z] w (BegP30 z w) := by
 obtain ⟨lines, hl⟩ : ∃ lines : Nat, 4 + z % 4 = (lines : Int) := ⟨(4 + z % 4).toNat, by omega⟩
 obtain ⟨zm, hzm⟩ : ∃ zm, z % 4 = zm := ⟨_, rfl⟩
 have HMD : Hid (Calls Tryz.prog 14 #[.int .i64 z, .int .i64 4] w fun r w' => r = .returned (.int .i64 zm) ∧ w = w') := by rw [← hzm]; exact fmod30 w z hz 4 (by omega)
 have hl4 : 4 ≤ lines ∧ lines ≤ 7 := by omega
 rw [hzm] at hl
 have e1 : IntKind.i64.wrap (4 + zm) = (lines : Int) := by rw [hl]; exact IntWalk.i64_in _ (by omega)
 obtain ⟨n, hn⟩ : ∃ n, 32 + lines = n := ⟨_, rfl⟩
 have e2 : IntKind.i64.wrap (32 + (lines : Int)) = (n : Int) := by rw [IntWalk.i64_in _ (by omega)]; omega
 have HNW : Hid (Calls Tryz.prog 33 #[.int .i64 (n : Int)] w (DNewPost w (newS (List.replicate (8 * n) 0) n))) := devNew w n (by omega) (by omega)
 have HZ : Hid ((lines : Int) = 4 + z % 4) := by show _ = _; omega
 have HL4 := Lib.hid (And.intro hl4 hn)
 have HT := Lib.hid hT
 have HXN : Hid (xsB lines = quXs (applyW (List.replicate (8 * n) 0) (fmt17 0 8)) lines) := by show _ = _; unfold xsB; rw [hn]
 clear hzm hl hz hn hT
 go_enter Tryz.func10, Tryz.ntmps10
 go_wp2_with (first
  | (go_at_call 14; (with_reducible refine HMD.out.mono ?_); rintro e w' ⟨rfl, rfl⟩)
  | (go_at_call 33; (with_reducible refine HNW.out.mono ?_); rintro e w1 ⟨d, L, rfl, hD, hb, hF⟩; have HB := Lib.hid hb; have HV0 : Hid (DV (fun b => w.heap.size ≤ b) d L.t w1 (newS (List.replicate (8 * n) 0) n)) := ⟨(fun b hb' => by have h1 := hb.size; omega), L, rfl, hD, (fun b hb' => hF b hb')⟩; clear hb hD hF)
  | (go_at_call 35; (first | (refine (vThread HV0.out 0 (by omega)).mono ?_) | (refine (vThread HV4.out 0 (by omega)).mono ?_)); rintro e w' ⟨rfl, rfl⟩)
  | (go_at_call 34; (refine (pwFormat HV0.out (new_clean30 _ n (by simp)) 0 32 (by omega) (by have := HL4.out; omega) (by have := HL4.out; omega) 0 (by omega) (by omega)).mono ?_); rintro e w4 ⟨rfl, ⟨S4, hD4, hL4⟩, hC4⟩; have HV4 := Lib.hid hD4; have HCL4 := Lib.hid hL4; have HC4 := Lib.hid hC4; clear hD4 hL4 hC4)
  | (go_at_call 36; (refine (quFormat HV4.out lines HL4.out.1 (by rw [HL4.out.2]; exact HCL4.out) 0 (by omega) (by omega)).mono ?_); rintro e w5 ⟨rfl, ⟨S5, hD5, hL5⟩, hC5⟩; have HV5 := Lib.hid hD5; have HCL5 := Lib.hid hL5; have HC5 := Lib.hid hC5; clear hD5 hL5 hC5)
  | (go_at_call 37; have hcl5 : Clean S5 n (xsB lines) (0 + 100 + 200) := (by rw [HXN.out]; have h9 := HCL5.out; rw [HL4.out.2] at h9; exact h9); (refine (fopen30 (K := fun b => b < w.heap.size) HV5.out hcl5 HL4.out.2 HL4.out.1 (by rw [length_xsB, HL4.out.2]) (xsB_fits lines (by have := HL4.out; omega)) (xsB_un lines) (xsB_em lines HL4.out.1.1) (fun b hb => ⟨by have h1 := HB.out.size; have h2 := HC4.out.size; have h3 := HC5.out.size; omega, by omega⟩)).mono ?_); rintro e w8 ⟨p, q, rfl, hP, hq, hqw, hC⟩; have HCL6 := Lib.hid hcl5; have HP8 := Lib.hid (And.intro hP (And.intro hq (And.intro hqw hC))); clear hP hq hqw hC hcl5))
 refine bodyPost_ret (v := .tuple #[.pointer (some ⟨d, 0, none⟩), .pointer (some ⟨q, 0, none⟩), .int .i64 (lines : Int)]) (by simp [results, Tryz.results10, go_sem]) rfl ?_
 obtain ⟨hP, hq, hqw, hC⟩ := HP8.out
 have hcl := HCL6.out
 obtain ⟨l4, ln⟩ := HL4.out
 have hon : On S5 n (xsB lines) (0 + 100 + 200) := ⟨hcl.good, hcl.nl, hcl.cur, hcl.off, hcl.armed, hcl.err⟩
 have hb5 : Below w.heap.size w w5 := bl_ch (bl_ch HB.out HC4.out (fun b hb => hb)) HC5.out (fun b hb => hb)
 have hb8 : Below w.heap.size w w8 := bl_ch hb5 hC (fun b hb => by omega)
 have hem := xsB_em lines l4.1
 have hs5 := hb5.size
 refine ⟨d, p, q, n, lines, L.t, _, 0 + 100 + 200, xsB lines, fun k => (xsB lines).getD k 0, rfl, HZ.out, by omega, hq.lt, ⟨hP.less (fun b hb => ?_), hq, ?_, HT.out.below hb8, ?_, by omega, ⟨rfl, by omega⟩, by omega⟩, ⟨Inv.init hon (fun k hk => (hem.at_ hk (by omega)).2) (fun k hk => (hem.at_ hk (by omega)).1), QLs.start ⟨0, hem.ab (by omega)⟩ rfl, ?_⟩, by omega, hb8⟩
 · unfold rolB at hb
   by_cases h1 : b = q
   · exact .inr h1
   · rw [if_neg h1] at hb
     by_cases h2 : b < w.heap.size
     · exact .inl h2
     · rw [if_neg h2] at hb; exact absurd rfl hb
 · unfold rolB; rw [if_pos rfl]
 · unfold rolB; have := HT.out.1; rw [if_neg (by omega), if_pos this]
 · refine ⟨⟨fun i m h => (by simp at h), fun i j mi mj h => (by simp at h)⟩, fun i m s f c r h => (by simp at h), fun i m f c v a h => (by simp at h), by simp, fun k hk => ?_, fun i j mi mj a a' o o' h => (by simp at h)⟩
   constructor
   · intro h
     have : (List.replicate 8 false).getD k false = false := by
      rw [List.getD_eq_getElem?_getD, List.getElem?_replicate]; split <;> rfl
     rw [this] at h; cases h
   · rintro ⟨i, m, a, o, h, _⟩; simp at h
end
theorem list_ext0 {vs ws : List Int} {n : Nat} (h1 : vs.length = n) (h2 : ws.length = n) (h : ∀ q, q < n → gt0 vs q = gt0 ws q) : vs = ws := by
 apply List.ext_getElem
 · rw [h1, h2]
 · intro i l1 l2
   have e : ∀ (l : List Int) (hl : i < l.length), gt0 l i = l[i] := fun l hl => by unfold gt0; rw [List.getD_eq_getElem?_getD, List.getElem?_eq_getElem hl]; rfl
   rw [← e _ l1, ← e _ l2]; exact h i (by omega)
theorem gt0_at {l : List Int} {i : Nat} (hl : i < l.length) : l[i] = gt0 l i := by unfold gt0; rw [List.getD_eq_getElem?_getD, List.getElem?_eq_getElem hl]; rfl
set_option maxRecDepth 100000 in
set_option maxHeartbeats 2000000 in
theorem refSame30 (w : World) (A B : Option Addr) (n1 c1 n2 c2 : Nat) (vs ws : List Int) (h1 : vs.length = n1) (h2 : ws.length = n2) (hm : n1 ≤ 100000 ∧ n2 ≤ 100000) (hR : Rd .u64 w A vs) (hS : Rd .u64 w B ws) :
 Calls Tryz.prog 16 #[.slice A n1 c1, .slice B n2 c2] w fun r w' => r = .returned (.bool (vs == ws)) ∧ Below w.heap.size w w' := by
 by_cases hnn : n1 = n2
 · subst hnn
   have HR := Lib.hid hR
   have HS := Lib.hid hS
   have H1 := Lib.hid h1
   have H2 := Lib.hid h2
   clear hR hS h1 h2
   go_enter Tryz.func16, Tryz.ntmps16
   go_wp2
   go_loopw [13, 4, 5, 14, 15, 16, 17, 18, 19, 20, 21, 22, 23, 24, 25] (fun i _ _ _ _ _ _ _ _ _ _ _ _ _ _ wr => ∃ j : Nat, j ≤ n1 ∧ i = .int .i64 j ∧ (∀ q, q < j → gt0 vs q = gt0 ws q) ∧ Below w.heap.size w wr) (fun i _ _ _ _ _ _ _ _ _ _ _ _ _ _ _ => n1 - (intOf i).toNat)
   case atStart => exact ⟨0, by omega, rfl, fun q hq => by omega, Below.refl _ _⟩
   case round =>
    obtain ⟨j, hj, rfl, hall, hB⟩ := hrel
    have HALL := Lib.hid hall
    have HB := Lib.hid hB
    by_cases hlt : j < n1
    · have hlt' : (j : Int) < (n1 : Int) := by omega
      obtain ⟨g1, o1, hA1, hl1, hc1⟩ := (HR.out.below hB).at_ (i := j) (by rw [H1.out]; exact hlt)
      obtain ⟨g2, o2, hA2, hl2, hc2⟩ := (HS.out.below hB).at_ (i := j) (by rw [H2.out]; exact hlt)
      rw [gt0_at] at hc1 hc2
      obtain ⟨u, hu⟩ : ∃ u, gt0 vs j = u := ⟨_, rfl⟩
      obtain ⟨v, hv⟩ : ∃ v, gt0 ws j = v := ⟨_, rfl⟩
      rw [hu] at hc1
      rw [hv] at hc2
      have HU := Lib.hid hu
      have HV := Lib.hid hv
      subst hA1 hA2
      clear hall hB hu hv
      by_cases hq : u = v
      · have HQ := Lib.hid (show gt0 vs j = gt0 ws j by rw [HU.out, HV.out, hq])
        subst hq
        go_wp2
        go_quiet (fail)
        go_wp2
        refine ⟨⟨j + 1, by omega, by go_num, fun q hq => ?_, HB.out.trans ((by (repeat (first | with_reducible (first | exact Below.refl _ _ | refine bl_alloc ?_ _ | refine bl_drew ?_ | refine bl_drewN ?_ _ | refine bl_bx ?_ _ | exact BX.below _ | refine bl_set ?_ (by first | (exact Nat.le_refl _) | (simp; done) | (simp; omega)) _) | assumption)) : Below wr.heap.size wr _).mono HB.out.size)⟩, by simp [intOf]; omega⟩
        by_cases hqj : q = j
        · rw [hqj]; exact HQ.out
        · exact HALL.out q (by omega)
      · have HQ : Hid ((vs == ws) = false) := by
         show _ = _
         rw [beq_eq_false_iff_ne]
         intro he
         exact hq (by rw [← HU.out, ← HV.out, he])
        have hd : decide (u = v) = false := decide_eq_false hq
        go_wp2
        go_quiet (fail)
        go_wp2
        exact bodyPost_ret (v := .bool false) (by simp [results, Tryz.results16, go_sem]) rfl ⟨by rw [HQ.out], HB.out.trans ((by (repeat (first | with_reducible (first | exact Below.refl _ _ | refine bl_alloc ?_ _ | refine bl_drew ?_ | refine bl_drewN ?_ _ | refine bl_bx ?_ _ | exact BX.below _ | refine bl_set ?_ (by first | (exact Nat.le_refl _) | (simp; done) | (simp; omega)) _) | assumption)) : Below wr.heap.size wr _).mono HB.out.size)⟩
    · obtain rfl : j = n1 := by omega
      have HQ : Hid ((vs == ws) = true) := by
       show _ = _
       rw [beq_iff_eq]
       exact list_ext0 H1.out H2.out HALL.out
      clear hall hB
      go_wp2
      exact bodyPost_ret (v := .bool true) (by simp [results, Tryz.results16, go_sem]) rfl ⟨by rw [HQ.out], HB.out⟩
 · have HQ : Hid ((vs == ws) = false) := by
    show _ = _
    rw [beq_eq_false_iff_ne]
    intro he
    exact hnn (by rw [← h1, ← h2, he])
   have hd : ((n1 : Int) = (n2 : Int)) = False := by simp; omega
   have hd2 : decide ((n1 : Int) = (n2 : Int)) = false := by simp; omega
   clear hR hS h1 h2
   go_enter Tryz.func16, Tryz.ntmps16
   go_wp2
   exact bodyPost_ret (v := .bool false) (by simp [results, Tryz.results16, go_sem]) rfl ⟨by rw [HQ.out], Below.refl _ _⟩
end Go.Proofs.YtaefkelaffijbaaGreatDoor
