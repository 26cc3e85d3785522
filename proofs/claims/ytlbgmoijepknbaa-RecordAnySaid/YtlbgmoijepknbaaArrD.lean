/- Contract of Decode of Array of Int. -/
import Derived.Test.YtlbgmoijepknbaaArr
import Derived.Test.YtlbgmoijepknbaaApp
namespace Go.Proofs.Ytlbgmoijepknbaa
open Go.RowKit
set_option linter.unusedVariables false

theorem info_i64 : (Try.prog.info? 2).map (fun i => (i.zero, i.size, i.bytes)) = some (some (.int .i64 0), 1, 8) := by kernel_rfl

set_option maxHeartbeats 400000 in
/-- The codec has no words, the slice has another length, or there are too many numbers. -/
theorem arrIEncode_no (w : World) (N : Int) (A B : Option Addr) (m n cm c : Nat) (h : arrW N = 0 ∨ (n : Int) ≠ arrW N ∨ N < (m : Int)) :
    Calls Try.prog 45 #[.agg #[.int .i64 N, .iface 80 (.agg #[])], .slice A m cm, .slice B n c] w fun e w' => e = .returned (.bool false) ∧ Below w.heap.size w w' := by
  generalize hW : arrW N = z at h
  have HW := Lib.hid hW
  clear hW
  by_cases h0 : z = 0
  · subst h0
    clear h
    go_enter Try.func45, Try.ntmps45
    go_wp2_with (go_at_call 43; refine (arrIWords _ _).mono ?_; rw [HW.out]; rintro e w' ⟨rfl, hb⟩; obtain ⟨x, rfl⟩ := bx_of hb; clear hb)
    go_ret
    exact ⟨rfl, (by repeat (first | with_reducible exact Below.refl _ _ | with_reducible refine bl_alloc ?_ _ | with_reducible refine bl_drew ?_ | with_reducible refine bl_drewN ?_ _ | with_reducible refine bl_bx ?_ _ | with_reducible exact BX.below _ | with_reducible refine bl_set ?_ (by first | (exact Nat.le_refl _) | (simp; done) | (simp; omega)) _ | assumption))⟩
  · have h1 : (z == 0) = false := by simpa using h0
    by_cases h2 : (n : Int) = z
    · have h3 : N < (m : Int) := by
        rcases h with h | h | h
        · exact absurd h h0
        · exact absurd h2 h
        · exact h
      have h4 : ((n : Int) != z) = false := by simpa using h2
      clear h h0 h2
      go_enter Try.func45, Try.ntmps45
      go_wp2_with (go_at_call 43; refine (arrIWords _ _).mono ?_; rw [HW.out]; rintro e w' ⟨rfl, hb⟩; obtain ⟨x, rfl⟩ := bx_of hb; clear hb)
      go_ret
      exact ⟨rfl, (by repeat (first | with_reducible exact Below.refl _ _ | with_reducible refine bl_alloc ?_ _ | with_reducible refine bl_drew ?_ | with_reducible refine bl_drewN ?_ _ | with_reducible refine bl_bx ?_ _ | with_reducible exact BX.below _ | with_reducible refine bl_set ?_ (by first | (exact Nat.le_refl _) | (simp; done) | (simp; omega)) _ | assumption))⟩
    · have h4 : ((n : Int) != z) = true := by simpa using h2
      clear h h0 h2
      go_enter Try.func45, Try.ntmps45
      go_wp2_with (go_at_call 43; refine (arrIWords _ _).mono ?_; rw [HW.out]; rintro e w' ⟨rfl, hb⟩; obtain ⟨x, rfl⟩ := bx_of hb; clear hb)
      go_ret
      exact ⟨rfl, (by repeat (first | with_reducible exact Below.refl _ _ | with_reducible refine bl_alloc ?_ _ | with_reducible refine bl_drew ?_ | with_reducible refine bl_drewN ?_ _ | with_reducible refine bl_bx ?_ _ | with_reducible exact BX.below _ | with_reducible refine bl_set ?_ (by first | (exact Nat.le_refl _) | (simp; done) | (simp; omega)) _ | assumption))⟩

set_option maxHeartbeats 400000 in
/-- The codec has no words, or the slice has another length. -/
theorem arrIDecode_len (w : World) (N : Int) (A : Option Addr) (n c : Nat) (h : arrW N = 0 ∨ (n : Int) ≠ arrW N) :
    Calls Try.prog 47 #[.agg #[.int .i64 N, .iface 80 (.agg #[])], .slice A n c] w fun e w' => e = .returned (.tuple #[.slice none 0 0, .bool false]) ∧ Below w.heap.size w w' := by
  generalize hW : arrW N = z at h
  have HW := Lib.hid hW
  clear hW
  by_cases h0 : z = 0
  · subst h0
    go_enter Try.func47, Try.ntmps47
    go_wp2_with (go_at_call 43; refine (arrIWords _ _).mono ?_; rw [HW.out]; rintro e w' ⟨rfl, hb⟩; obtain ⟨x, rfl⟩ := bx_of hb; clear hb)
    go_quiet (fail)
    go_wp2
    go_ret2
    exact ⟨rfl, (by repeat (first | with_reducible exact Below.refl _ _ | with_reducible refine bl_alloc ?_ _ | with_reducible refine bl_drew ?_ | with_reducible refine bl_drewN ?_ _ | with_reducible refine bl_bx ?_ _ | with_reducible exact BX.below _ | with_reducible refine bl_set ?_ (by first | (exact Nat.le_refl _) | (simp; done) | (simp; omega)) _ | assumption))⟩
  · have h1 : (z == 0) = false := by simpa using h0
    have h2 : ((n : Int) != z) = true := by rw [bne_iff_ne]; exact h.resolve_left h0
    clear h h0
    go_enter Try.func47, Try.ntmps47
    go_wp2_with (go_at_call 43; refine (arrIWords _ _).mono ?_; rw [HW.out]; rintro e w' ⟨rfl, hb⟩; obtain ⟨x, rfl⟩ := bx_of hb; clear hb)
    go_quiet (fail)
    go_wp2
    go_ret2
    exact ⟨rfl, (by repeat (first | with_reducible exact Below.refl _ _ | with_reducible refine bl_alloc ?_ _ | with_reducible refine bl_drew ?_ | with_reducible refine bl_drewN ?_ _ | with_reducible refine bl_bx ?_ _ | with_reducible exact BX.below _ | with_reducible refine bl_set ?_ (by first | (exact Nat.le_refl _) | (simp; done) | (simp; omega)) _ | assumption))⟩

set_option maxRecDepth 100000 in
set_option maxHeartbeats 1000000 in
theorem arrIDecode_big (w : World) (N : Nat) (hN : N ≤ 4095) (g off c : Nat) (x0 : Int) (hg : g < w.heap.size) (h0 : w.cell? ⟨g, off, none⟩ = some (.int .u64 x0)) (hx : (N : Int) < x0) :
    Calls Try.prog 47 #[.agg #[.int .i64 (N : Int), .iface 80 (.agg #[])], .slice (some ⟨g, off, none⟩) (N + 1) c] w fun e w' => e = .returned (.tuple #[.slice none 0 0, .bool false]) ∧ Below w.heap.size w w' := by
  have HW : Hid (arrW (N : Int) = (N : Int) + 1) := by show _ = _; rw [arrW_ok (by omega) (by omega)]; omega
  have h1 : (((N : Int) + 1) == 0) = false := by simp; omega
  have h2 : ((((N : Int) + 1)) != ((N : Int) + 1)) = false := by simp
  have h3 : decide ((N : Int) < x0) = true := by simpa using hx
  have hg1 : g < w.heap.size + 1 := by omega
  have hcv : IntKind.u64.wrap (N : Int) = (N : Int) := IntWalk.u64_in _ (by omega)
  go_enter Try.func47, Try.ntmps47
  go_wp2_with (go_at_call 43; refine (arrIWords _ _).mono ?_; rw [HW.out]; rintro e w' ⟨rfl, hb⟩; obtain ⟨x, rfl⟩ := bx_of hb; clear hb)
  go_quiet (fail)
  go_wp2
  go_ret2
  exact ⟨rfl, (by repeat (first | with_reducible exact Below.refl _ _ | with_reducible refine bl_alloc ?_ _ | with_reducible refine bl_drew ?_ | with_reducible refine bl_drewN ?_ _ | with_reducible refine bl_bx ?_ _ | with_reducible exact BX.below _ | with_reducible refine bl_set ?_ (by first | (exact Nat.le_refl _) | (simp; done) | (simp; omega)) _ | assumption))⟩

theorem rd_tail0 {w : World} {A : Option Addr} {ws : List Int} {N u c : Nat} (hl : ws.length = N + 1) (hc : N + 1 ≤ c) (e : c = 1 + u) (hu : u ≤ N) : Rd .u64 w A (ws.drop (1 + u)) := by
  left; apply List.drop_eq_nil_of_le; omega

set_option maxRecDepth 100000 in
set_option maxHeartbeats 2000000 in
theorem arrIDecode_bad (w : World) (N : Nat) (hN : N ≤ 4095) (g off c : Nat) (ws : List Int) (u : Nat) (hl : ws.length = N + 1) (hc : N + 1 ≤ c) (hR : Rd .u64 w (some ⟨g, off, none⟩) ws) (hg : g < w.heap.size)
    (h0 : w.cell? ⟨g, off, none⟩ = some (.int .u64 (u : Int))) (hu : u ≤ N) (hz : (ws.drop (1 + u)).all (· == 0) = false) :
    Calls Try.prog 47 #[.agg #[.int .i64 (N : Int), .iface 80 (.agg #[])], .slice (some ⟨g, off, none⟩) (N + 1) c] w fun e w' => e = .returned (.tuple #[.slice none 0 0, .bool false]) ∧ Below w.heap.size w w' := by
  have HW : Hid (arrW (N : Int) = (N : Int) + 1) := by show _ = _; rw [arrW_ok (by omega) (by omega)]; omega
  have h1 : (((N : Int) + 1) == 0) = false := by simp; omega
  have h2 : ((((N : Int) + 1)) != ((N : Int) + 1)) = false := by simp
  have h3 : decide ((N : Int) < (u : Int)) = false := by simp; omega
  have h4 : decide (N < u) = false := by simp; omega
  have hg1 : g < w.heap.size + 1 := by omega
  have hcv : IntKind.u64.wrap (N : Int) = (N : Int) := IntWalk.u64_in _ (by omega)
  have HZ := Lib.hid hz
  have HL := Lib.hid hl
  have HR := Lib.hid hR
  clear hz hl hR
  go_enter Try.func47, Try.ntmps47
  go_wp2_with (go_at_call 43; refine (arrIWords _ _).mono ?_; rw [HW.out]; rintro e w' ⟨rfl, hb⟩; obtain ⟨x, rfl⟩ := bx_of hb; clear hb)
  have hgx : g < x.w.heap.size := x.lt_size (by simp; omega)
  have hbx : w.heap.size < x.w.heap.size := x.lt_size (by simp)
  go_quiet (fail)
  go_wp2_with (go_at_call 71; refine (sizeI_int _).mono ?_; rintro e w' ⟨rfl, hb⟩; obtain ⟨y, rfl⟩ := bx_of hb; clear hb)
  all_goals refine (zeros_n _ _ _ _ (ws.drop (1 + u)) (by rw [List.length_drop, HL.out]) (by first | exact (HR.out.below (bl_bx (bl_drewN (bl_bx (bl_alloc (Below.refl _ _) _) x) _) y)).drop (1 + u) | exact rd_tail0 HL.out hc (by assumption) hu) (by rw [List.length_drop, HL.out]; omega)).mono ?_
  all_goals rintro e w' ⟨rfl, rfl⟩
  all_goals rw [HZ.out]
  all_goals go_wp2
  all_goals go_ret2
  all_goals exact ⟨rfl, (by repeat (first | with_reducible exact Below.refl _ _ | with_reducible refine bl_alloc ?_ _ | with_reducible refine bl_drew ?_ | with_reducible refine bl_drewN ?_ _ | with_reducible refine bl_bx ?_ _ | with_reducible exact BX.below _ | with_reducible refine bl_set ?_ (by first | (exact Nat.le_refl _) | (simp; done) | (simp; omega)) _ | assumption))⟩

/-- The numbers of the words of an array. -/
def arrVals (ws : List Int) (u : Nat) : List Int := ((ws.drop 1).take u).map wrap64
theorem arrVals_succ (ws : List Int) (k : Nat) (h : 1 + k < ws.length) : arrVals ws (k + 1) = arrVals ws k ++ [wrap64 ws[1 + k]] := by
  unfold arrVals
  rw [List.take_succ_eq_append_getElem (by simp; omega)]
  simp [Nat.add_comm k 1]
theorem length_arrVals (ws : List Int) (k : Nat) (h : 1 + k ≤ ws.length) : (arrVals ws k).length = k := by
  simp [arrVals]; omega

set_option maxRecDepth 100000 in
set_option maxHeartbeats 4000000 in
theorem arrIDecode_ok (w : World) (N : Nat) (hN : N ≤ 4095) (g off c : Nat) (ws : List Int) (u : Nat) (hl : ws.length = N + 1) (hc : N + 1 ≤ c) (hR : Rd .u64 w (some ⟨g, off, none⟩) ws) (hg : g < w.heap.size)
    (h0 : w.cell? ⟨g, off, none⟩ = some (.int .u64 (u : Int))) (hu : u ≤ N) (hz : (ws.drop (1 + u)).all (· == 0) = true) :
    Calls Try.prog 47 #[.agg #[.int .i64 (N : Int), .iface 80 (.agg #[])], .slice (some ⟨g, off, none⟩) (N + 1) c] w
      fun e w' => (∃ A' c', e = .returned (.tuple #[.slice A' u c', .bool true]) ∧ Rd .i64 w' A' (arrVals ws u)) ∧ Below w.heap.size w w' := by
  have HW : Hid (arrW (N : Int) = (N : Int) + 1) := by show _ = _; rw [arrW_ok (by omega) (by omega)]; omega
  have h1 : (((N : Int) + 1) == 0) = false := by simp; omega
  have h2 : ((((N : Int) + 1)) != ((N : Int) + 1)) = false := by simp
  have h3 : decide ((N : Int) < (u : Int)) = false := by simp; omega
  have h4 : decide (N < u) = false := by simp; omega
  have hg1 : g < w.heap.size + 1 := by omega
  have hcv : IntKind.u64.wrap (N : Int) = (N : Int) := IntWalk.u64_in _ (by omega)
  have hmk := fun W => run_make_cap (P := Try.prog) 96 2 .i64 .i64 .u64 u Try.underlying96 8 info_i64 (by omega) (by omega) W
  have HZ := Lib.hid hz
  have HL := Lib.hid hl
  have HR := Lib.hid hR
  clear hz hl hR
  go_enter Try.func47, Try.ntmps47
  go_wp2_with (go_at_call 43; refine (arrIWords _ _).mono ?_; rw [HW.out]; rintro e w' ⟨rfl, hb⟩; obtain ⟨x, rfl⟩ := bx_of hb; clear hb)
  have hgx : g < x.w.heap.size := x.lt_size (by simp; omega)
  have hbx : w.heap.size < x.w.heap.size := x.lt_size (by simp)
  go_quiet (fail)
  go_wp2_with (go_at_call 71; refine (sizeI_int _).mono ?_; rintro e w' ⟨rfl, hb⟩; obtain ⟨y, rfl⟩ := bx_of hb; clear hb)
  all_goals refine (zeros_n _ _ _ _ (ws.drop (1 + u)) (by rw [List.length_drop, HL.out]) (by first | exact (HR.out.below (bl_bx (bl_drewN (bl_bx (bl_alloc (Below.refl _ _) _) x) _) y)).drop (1 + u) | exact rd_tail0 HL.out hc (by assumption) hu) (by rw [List.length_drop, HL.out]; omega)).mono ?_
  all_goals rintro e w' ⟨rfl, rfl⟩
  all_goals rw [HZ.out]
  all_goals have hgy : g < y.w.heap.size := y.lt_size hgx
  all_goals go_wp2
  all_goals clear hmk
  all_goals
    go_loopw [54, 8, 9, 10, 11, 12, 55, 56, 57, 58, 59, 60, 61, 62, 63, 64, 65, 66, 67, 68, 69, 70, 71, 72, 73, 74, 75, 76, 77, 78, 79, 80, 81, 82, 83, 84] (fun i v _ _ _ _ _ _ _ _ _ _ _ _ _ _ _ _ _ _ _ _ _ _ _ _ _ _ _ _ _ _ _ _ _ _ wr => ∃ (k : Nat) (A' : Option Addr) (c' : Nat), k ≤ u ∧ i = .int .i64 k ∧ v = .slice A' k c' ∧ OwnI .i64 2 wr (w.heap.size + 1) A' c' (arrVals ws k) ∧ Below (w.alloc (.cells #[.int .i64 (N : Int), .iface 80 (.agg #[])] 100)).heap.size (w.alloc (.cells #[.int .i64 (N : Int), .iface 80 (.agg #[])] 100)) wr) (fun i _ _ _ _ _ _ _ _ _ _ _ _ _ _ _ _ _ _ _ _ _ _ _ _ _ _ _ _ _ _ _ _ _ _ _ _ => u - (intOf i).toNat)
    case atStart => exact ⟨0, _, _, Nat.zero_le _, rfl, rfl, OwnI.made y.w u (by omega) (by have := y.size; simp at this; omega), bl_alloc (bl_bx (bl_drewN x.below _) y) _⟩
    case round =>
      obtain ⟨k, A', c', hk, rfl, rfl, hO, hB⟩ := hrel
      obtain ⟨z, rfl⟩ := bx_of hB
      have HO := Lib.hid hO
      clear hO hB
      by_cases hlt : k < u
      · have hq : 1 + k < ws.length := by have := HL.out; omega
        obtain ⟨b, o, hbo, _, hcell⟩ := (HR.out.below (bl_bx (bl_alloc (Below.refl _ _) _) z)).at_ hq
        injection hbo with hbo
        injection hbo with hbo hbo'
        subst hbo hbo'
        have hgz : g < z.w.heap.size := z.lt_size (by simp; omega)
        have hLk := length_arrVals ws k (by omega)
        have HLk := Lib.hid hLk
        clear hLk
        go_wp2
        refine wp_region_bx (by kernel_rfl) (by kernel_rfl) ?_
        repeat (go_big_quiet_step ((go_at_call 33; exact bx_call (intDecode_ok _ g _ _ ws[1 + k] ((BX.cell _ _ _ hgz).trans hcell) (BX.lt_size _ hgz)))))
        refine wpQuiet_nil ?_
        rintro _ ⟨q, rfl⟩
        have hO2 := (HO.out.bx q).alloc (.cells #[.int .i64 (wrap64 ws[1 + k])] 2)
        have HO2 := Lib.hid hO2
        have hbs : w.heap.size + 1 ≤ (q.w.alloc (.cells #[.int .i64 (wrap64 ws[1 + k])] 2)).heap.size := by have h1 := q.size; have h2 := z.size; simp at h2 ⊢; omega
        have HBs := Lib.hid hbs
        clear hO2 hbs
        go_wp2_with (at_builtin; refine wpList_append_ints rfl (.tmp 80) (.tmp 82) 96 rfl 2 .i64 8 Try.underlying96 info_i64 (by omega) (w.heap.size + 1) A' c' (arrVals ws k) k _ _ _ [wrap64 ws[1 + k]] rfl rfl HLk.out HO2.out rfl (rd_one _ _ _ _) (by rw [HLk.out]; simp; omega) HBs.out ?_; intro A2 c2 w2 HO3 HC3 HW3)
        have h6 := HO3.out
        rw [← arrVals_succ ws k hq] at h6
        have h7 := bl_ch (bl_alloc (bl_bx z.below q) _) HC3.out (fun b hb => by have := (HO.out.lt hb).1; simpa using this)
        go_roundw
        case rel => exact ⟨k + 1, A2, c2, by omega, by go_num, rfl, h6, h7⟩
        case measure => simp [intOf]; omega
      · obtain rfl : k = u := by omega
        go_wp2
        go_ret2
        exact ⟨⟨A', c', rfl, HO.out.rd⟩, (by repeat (first | with_reducible exact Below.refl _ _ | with_reducible refine bl_alloc ?_ _ | with_reducible refine bl_drew ?_ | with_reducible refine bl_drewN ?_ _ | with_reducible refine bl_bx ?_ _ | with_reducible exact BX.below _ | with_reducible refine bl_set ?_ (by first | (exact Nat.le_refl _) | (simp; done) | (simp; omega)) _ | assumption))⟩
end Go.Proofs.Ytlbgmoijepknbaa
