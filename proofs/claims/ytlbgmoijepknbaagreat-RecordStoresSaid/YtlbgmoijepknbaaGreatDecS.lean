/- Contract of Decode of Array of Name with room for two. -/
import Derived.Test.YtlbgmoijepknbaaGreatArrS
import Derived.Test.YtlbgmoijepknbaaGreatName
import Derived.Test.YtlbgmoijepknbaaGreatSeg
namespace Go.Proofs.YtlbgmoijepknbaaGreat
open Go.RowKit
set_option linter.unusedVariables false

/-- Words of 64 bits. -/
def U64s (ws : List Int) : Prop := ∀ x ∈ ws, 0 ≤ x ∧ x < 18446744073709551616
theorem U64s.get {ws : List Int} (h : U64s ws) {i : Nat} (hi : i < ws.length) : 0 ≤ ws[i] ∧ ws[i] < 18446744073709551616 := h _ (List.getElem_mem hi)
theorem U64s.drop {ws : List Int} (h : U64s ws) (n : Nat) : U64s (ws.drop n) := fun x hx => h x (List.mem_of_mem_drop hx)
theorem U64s.take {ws : List Int} (h : U64s ws) (n : Nat) : U64s (ws.take n) := fun x hx => h x (List.mem_of_mem_take hx)

theorem nameDecode_all (w : World) (g off c : Nat) (x0 x1 x2 : Int) (hg : g < w.heap.size) (h0 : w.cell? ⟨g, off, none⟩ = some (.int .u64 x0)) (hx0 : 0 ≤ x0) (hx1 : 0 ≤ x1) (hx2 : 0 ≤ x2)
    (h1 : w.cell? ⟨g, off + 1, none⟩ = some (.int .u64 x1)) (h2 : w.cell? ⟨g, off + 2, none⟩ = some (.int .u64 x2)) (hcap : 3 ≤ c) :
    Calls Tryz.prog 21 #[.agg #[], .slice (some ⟨g, off, none⟩) 3 c] w fun e w' => e = nameRes (nameDec x0 x1 x2) ∧ Below w.heap.size w w' := by
  by_cases h : 16 < x0
  · have e1 : nameDec x0 x1 x2 = none := if_pos h
    rw [e1]
    exact nameDecode_big w g off c x0 hg h0 h
  · exact nameDecode_3 w g off c x0 x1 x2 hg h0 (by omega) hx0 hx1 hx2 h1 h2 hcap

def nameAt (ws : List Int) (k : Nat) : Option (List Int) := nameDec (ws[1 + 3 * k]?.getD 0) (ws[2 + 3 * k]?.getD 0) (ws[3 + 3 * k]?.getD 0)
def namesDec (ws : List Int) : Nat → Option (List ByteArray)
  | 0 => some []
  | k + 1 => match namesDec ws k, nameAt ws k with
    | some l, some n => some (l ++ [strOf n])
    | _, _ => none
def word0 (ws : List Int) : Int := ws[0]?.getD 0
def decS (ws : List Int) : Option (List ByteArray) :=
  if 2 < word0 ws then none
  else if (ws.drop (1 + 3 * (word0 ws).toNat)).all (· == 0) = false then none
  else namesDec ws (word0 ws).toNat

theorem namesDec_none {ws : List Int} {k n : Nat} (hk : k ≤ n) (h : namesDec ws k = none) : namesDec ws n = none := by
  induction n with
  | zero => obtain rfl : k = 0 := by omega
            exact h
  | succ n ih =>
    rcases Nat.lt_or_ge k (n + 1) with hlt | hge
    · rw [namesDec, ih (by omega)]
    · obtain rfl : k = n + 1 := by omega
      exact h
theorem namesDec_length {ws : List Int} {k : Nat} {l : List ByteArray} (h : namesDec ws k = some l) : l.length = k := by
  induction k generalizing l with
  | zero => injection h with h; subst h; rfl
  | succ k ih =>
    rw [namesDec] at h
    split at h
    · rename_i l' n h1 h2
      injection h with h
      subst h
      simp [ih h1]
    · cases h

/-- What Decode returns. -/
def DecSPost (w : World) (r : Option (List ByteArray)) (e : Ending) (w' : World) : Prop :=
  Below w.heap.size w w' ∧ match r with
  | some l => ∃ A' c', e = .returned (.tuple #[.slice A' l.length c', .bool true]) ∧ RdV w' A' (strVals l) ∧ (∀ b, OwnB A' b → w.heap.size ≤ b)
  | none => e = .returned (.tuple #[.slice none 0 0, .bool false])
theorem RdV.setCell {w : World} {A : Option Addr} {vs : List Value} (h : RdV w A vs) {p : Addr} (hp : ∀ b, OwnB A b → b ≠ p.block) (u : Value) : RdV (w.setCell p u) A vs := by
  rcases h with h | ⟨b, off, h1, h2, h3⟩
  · exact .inl h
  · refine .inr ⟨b, off, h1, by simpa using h2, fun i hi => ?_⟩
    rw [← h3 i hi]
    exact World.cell?_of_block (w := w) (a := ⟨b, off + i, none⟩) (Below.heap_setCell w p u b (hp b (by rw [h1]; simp [OwnB])))

theorem info_str : (Tryz.prog.info? 9).map (fun i => (i.zero, i.size, i.bytes)) = some (some (.string ⟨#[]⟩), 1, 16) := by kernel_rfl
theorem strVals_snoc (l : List ByteArray) (s : ByteArray) : strVals l ++ [.string s] = strVals (l ++ [s]) := by simp [strVals]

set_option maxRecDepth 100000 in
set_option maxHeartbeats 4000000 in
theorem arrSDecode (w : World) (g off c : Nat) (ws : List Int) (hl : ws.length = 7) (hc : 7 ≤ c) (hR : Rd .u64 w (some ⟨g, off, none⟩) ws) (hg : g < w.heap.size) (hw : U64s ws) :
    Calls Tryz.prog 103 #[.agg #[.int .i64 2, .iface 74 (.agg #[])], .slice (some ⟨g, off, none⟩) 7 c] w (DecSPost w (decS ws)) := by
  obtain ⟨x0, hx0⟩ : ∃ x0, word0 ws = x0 := ⟨_, rfl⟩
  have h0l : 0 < ws.length := by omega
  have hx0' : ws[0] = x0 := by rw [← hx0]; simp [word0, h0l]
  have h0 : w.cell? ⟨g, off, none⟩ = some (.int .u64 x0) := by
    obtain ⟨b, o, h1, _, h2⟩ := hR.at_ h0l
    injection h1 with h1
    injection h1 with h1 h1'
    subst h1 h1'
    rw [hx0'] at h2; exact h2
  have hx0n := (hw.get h0l).1
  rw [hx0'] at hx0n
  have HL := Lib.hid hl
  have HR := Lib.hid hR
  have HW := Lib.hid hw
  have hg1 : g < w.heap.size + 1 := by omega
  by_cases hx : 2 < x0
  · have HE : Hid (decS ws = none) := by show _ = _; unfold decS; rw [hx0, if_pos hx]
    have h3 : decide ((2 : Int) < x0) = true := by simpa using hx
    clear hl hR hw hx0 hx0'
    go_enter Tryz.func103, Tryz.ntmps103
    go_wp2_with (go_at_call 105; refine (arrSWords _).mono ?_; rintro e w' ⟨rfl, hb⟩; obtain ⟨x, rfl⟩ := bx_of hb; clear hb)
    have hgx : g < x.w.heap.size := x.lt_size (by simp; omega)
    go_quiet (fail)
    go_wp2
    go_ret2
    unfold DecSPost
    rw [HE.out]
    exact ⟨(by repeat (first | with_reducible exact Below.refl _ _ | with_reducible refine bl_alloc ?_ _ | with_reducible refine bl_drew ?_ | with_reducible refine bl_drewN ?_ _ | with_reducible refine bl_bx ?_ _ | with_reducible exact BX.below _ | with_reducible refine bl_set ?_ (by first | (exact Nat.le_refl _) | (simp; done) | (simp; omega)) _ | assumption)), rfl⟩
  · obtain ⟨u, rfl⟩ := Int.eq_ofNat_of_zero_le hx0n
    have hu : u ≤ 2 := by omega
    have h3 : decide ((2 : Int) < (u : Int)) = false := by simp; omega
    have hcv : IntKind.u64.wrap 2 = 2 := by decide
    have hmk := fun W => run_make_capV (P := Tryz.prog) 22 9 (.string ⟨#[]⟩) rfl .i64 .u64 u Tryz.underlying22 16 info_str (by omega) (by omega) W
    have HX := Lib.hid hx0
    clear hl hR hw hx0 hx0'
    go_enter Tryz.func103, Tryz.ntmps103
    go_wp2_with (go_at_call 105; refine (arrSWords _).mono ?_; rintro e w' ⟨rfl, hb⟩; obtain ⟨x, rfl⟩ := bx_of hb; clear hb)
    have hgx : g < x.w.heap.size := x.lt_size (by simp; omega)
    have hbx : w.heap.size < x.w.heap.size := x.lt_size (by simp)
    go_quiet (fail)
    go_wp2_with (go_at_call 106; refine (sizeS_name _).mono ?_; rintro e w' ⟨rfl, hb⟩; obtain ⟨y, rfl⟩ := bx_of hb; clear hb)
    all_goals refine (zeros_n _ _ _ _ (ws.drop (1 + 3 * u)) (by rw [List.length_drop, HL.out, Nat.mul_comm]) (by first | (rw [Nat.mul_comm 3 u]; exact (HR.out.below (bl_bx (bl_drewN (bl_bx (bl_alloc (Below.refl _ _) _) x) _) y)).drop (1 + u * 3)) | (left; apply List.drop_eq_nil_of_le; rw [HL.out]; omega)) (by rw [List.length_drop, HL.out]; omega)).mono ?_
    all_goals rintro e w' ⟨rfl, rfl⟩
    all_goals have hgy : g < y.w.heap.size := y.lt_size hgx
    all_goals
      cases hz : (ws.drop (1 + 3 * u)).all (· == 0) with
      | false =>
        have HE : Hid (decS ws = none) := by show _ = _; unfold decS; rw [HX.out, if_neg (by omega), Int.toNat_natCast, if_pos hz]
        clear hz
        go_wp2
        go_ret2
        unfold DecSPost
        rw [HE.out]
        exact ⟨(by repeat (first | with_reducible exact Below.refl _ _ | with_reducible refine bl_alloc ?_ _ | with_reducible refine bl_drew ?_ | with_reducible refine bl_drewN ?_ _ | with_reducible refine bl_bx ?_ _ | with_reducible exact BX.below _ | with_reducible refine bl_set ?_ (by first | (exact Nat.le_refl _) | (simp; done) | (simp; omega)) _ | assumption)), rfl⟩
      | true =>
        have HE : Hid (decS ws = namesDec ws u) := by show _ = _; unfold decS; rw [HX.out, if_neg (by omega), Int.toNat_natCast, if_neg (by rw [hz]; simp)]
        clear hz
        go_wp2
        clear hmk
        go_loopw [54, 8, 4, 5, 9, 10, 11, 12, 55, 56, 57, 58, 59, 60, 61, 62, 63, 64, 65, 66, 67, 68, 69, 70, 71, 72, 73, 74, 75, 76, 77, 78, 79, 80, 81, 82, 83, 84] (fun i v _ _ _ _ _ _ _ _ _ _ _ _ _ _ _ _ _ _ _ _ _ _ _ _ _ _ _ _ _ _ _ _ _ _ _ _ wr => ∃ (k : Nat) (A' : Option Addr) (c' : Nat) (l : List ByteArray), k ≤ u ∧ i = .int .i64 k ∧ v = .slice A' k c' ∧ namesDec ws k = some l ∧ OwnV 9 wr (w.heap.size + 1) A' c' (strVals l) ∧ Below (w.alloc (.cells #[.int .i64 2, .iface 74 (.agg #[])] 85)).heap.size (w.alloc (.cells #[.int .i64 2, .iface 74 (.agg #[])] 85)) wr) (fun i _ _ _ _ _ _ _ _ _ _ _ _ _ _ _ _ _ _ _ _ _ _ _ _ _ _ _ _ _ _ _ _ _ _ _ _ _ _ => u - (intOf i).toNat)
        case atStart => exact ⟨0, _, _, [], Nat.zero_le _, rfl, rfl, rfl, by have := OwnV.room (e := 9) (base := w.heap.size + 1) (w := y.w.alloc (.cells (List.replicate u (Value.string ⟨#[]⟩)).toArray 9)) (heap_alloc_new y.w _) (by have := y.size; simp at this; omega) (by simp; omega); rw [show strVals [] = [] from rfl]; simpa using this, bl_alloc (bl_bx (bl_drewN x.below _) y) _⟩
        case round =>
          obtain ⟨k, A', c', l, hk, rfl, rfl, hN, hO, hB⟩ := hrel
          obtain ⟨z, rfl⟩ := bx_of hB
          have HO := Lib.hid hO
          have HN := Lib.hid hN
          have HLk := Lib.hid ((length_strVals l).trans (namesDec_length hN))
          clear hO hB hN
          by_cases hlt : k < u
          · have hRz := HR.out.below (bl_bx (bl_alloc (Below.refl _ _) _) z)
            have hget : ∀ j, j < 7 → ∃ y, ws[j]?.getD 0 = y ∧ 0 ≤ y ∧ z.w.cell? ⟨g, off + j, none⟩ = some (.int .u64 y) := by
              intro j hj
              have hj' : j < ws.length := by rw [HL.out]; exact hj
              obtain ⟨b, o, h1, _, h2⟩ := hRz.at_ hj'
              injection h1 with h1
              injection h1 with h1 h1'
              subst h1 h1'
              exact ⟨ws[j], by simp [hj'], (HW.out.get hj').1, h2⟩
            obtain ⟨y0, e0, p0, c0⟩ := hget (1 + 3 * k) (by omega)
            obtain ⟨y1, e1, p1, c1⟩ := hget (2 + 3 * k) (by omega)
            obtain ⟨y2, e2, p2, c2⟩ := hget (3 + 3 * k) (by omega)
            have HNA : Hid (nameAt ws k = nameDec y0 y1 y2) := by show _ = _; unfold nameAt; rw [e0, e1, e2]
            have hgz : g < z.w.heap.size := z.lt_size (by simp; omega)
            have d0 : z.w.cell? ⟨g, off + (1 + k * 3), none⟩ = some (.int .u64 y0) := by rw [Nat.mul_comm]; exact c0
            have d1 : z.w.cell? ⟨g, off + (1 + k * 3) + 1, none⟩ = some (.int .u64 y1) := by rw [show off + (1 + k * 3) + 1 = off + (2 + 3 * k) by omega]; exact c1
            have d2 : z.w.cell? ⟨g, off + (1 + k * 3) + 2, none⟩ = some (.int .u64 y2) := by rw [show off + (1 + k * 3) + 2 = off + (3 + 3 * k) by omega]; exact c2
            have D0 := Lib.hid d0
            have D1 := Lib.hid d1
            have D2 := Lib.hid d2
            clear hget c0 c1 c2 e0 e1 e2 d0 d1 d2 hRz
            have hcl : ∀ W, (∃ q : BX z.w, W = q.w) → Calls Tryz.prog 21 #[.agg #[], .slice (some ⟨g, off + (1 + k * 3), none⟩) 3 3] W fun e w' => e = nameRes (nameDec y0 y1 y2) ∧ Below W.heap.size W w' := by
              rintro W ⟨q, rfl⟩
              exact nameDecode_all _ g _ 3 y0 y1 y2 (q.lt_size hgz) ((q.cell _ _ hgz).trans D0.out) p0 p1 p2 ((q.cell _ _ hgz).trans D1.out) ((q.cell _ _ hgz).trans D2.out) (by omega)
            have HCL := Lib.hid hcl
            clear hcl
            cases hND : nameDec y0 y1 y2 with
            | none =>
              rw [hND] at HCL HNA
              have HF : Hid (namesDec ws u = none) := by
                show _ = _
                refine namesDec_none (k := k + 1) (by omega) ?_
                rw [namesDec, HN.out, HNA.out]
              clear hND
              go_wp2
              refine wp_region_bx (by kernel_rfl) (by kernel_rfl) ?_
              repeat (go_big_quiet_step ((go_at_call 21; exact bx_call (HCL.out _ ⟨_, rfl⟩))))
              refine wpQuiet_nil ?_
              rintro _ ⟨q, rfl⟩
              go_wp2
              go_ret2
              unfold DecSPost
              rw [HE.out, HF.out]
              exact ⟨(by repeat (first | with_reducible exact Below.refl _ _ | with_reducible refine bl_alloc ?_ _ | with_reducible refine bl_drew ?_ | with_reducible refine bl_drewN ?_ _ | with_reducible refine bl_bx ?_ _ | with_reducible exact BX.below _ | with_reducible refine bl_set ?_ (by first | (exact Nat.le_refl _) | (simp; done) | (simp; omega)) _ | assumption)), rfl⟩
            | some nm =>
              rw [hND] at HCL HNA
              have HF : Hid (namesDec ws (k + 1) = some (l ++ [strOf nm])) := by
                show _ = _
                rw [namesDec, HN.out, HNA.out]
              clear hND
              go_wp2
              refine wp_region_bx (by kernel_rfl) (by kernel_rfl) ?_
              repeat (go_big_quiet_step ((go_at_call 21; exact bx_call (HCL.out _ ⟨_, rfl⟩))))
              refine wpQuiet_nil ?_
              rintro _ ⟨q, rfl⟩
              have hO2 := (HO.out.bx q).alloc (.cells #[.string (strOf nm)] 9)
              have HO2 := Lib.hid hO2
              have hbs : w.heap.size + 1 ≤ (q.w.alloc (.cells #[.string (strOf nm)] 9)).heap.size := by have h1 := q.size; have h2 := z.size; simp at h2 ⊢; omega
              have HBs := Lib.hid hbs
              clear hO2 hbs
              go_wp2_with (at_builtin; refine wpList_append_vals rfl (.tmp 80) (.tmp 82) 22 rfl 9 (.string ⟨#[]⟩) rfl 16 Tryz.underlying22 info_str (by omega) (w.heap.size + 1) A' c' (strVals l) k _ _ _ [.string (strOf nm)] rfl rfl HLk.out HO2.out rfl (rdV_one _ _ _) (by simp; rfl) (by rw [HLk.out]; simp; omega) HBs.out ?_; intro A2 c2 w2 HO3 HC3 HW3)
              have h6 := HO3.out
              rw [strVals_snoc] at h6
              have h7 := bl_ch (bl_alloc (bl_bx z.below q) _) HC3.out (fun b hb => by have := (HO.out.lt hb).1; simpa using this)
              go_roundw
              case rel => exact ⟨k + 1, A2, c2, l ++ [strOf nm], by omega, by go_num, rfl, HF.out, h6, h7⟩
              case measure => simp [intOf]; omega
          · obtain rfl : k = u := by omega
            go_wp2
            go_ret2
            unfold DecSPost
            rw [HE.out, HN.out]
            have hlk := namesDec_length HN.out
            exact ⟨(by repeat (first | with_reducible exact Below.refl _ _ | with_reducible refine bl_alloc ?_ _ | with_reducible refine bl_drew ?_ | with_reducible refine bl_drewN ?_ _ | with_reducible refine bl_bx ?_ _ | with_reducible exact BX.below _ | with_reducible refine bl_set ?_ (by first | (exact Nat.le_refl _) | (simp; done) | (simp; omega)) _ | assumption)), A', c', by rw [hlk]; rfl, HO.out.rd, fun b hb => by have := (HO.out.lt hb).1; omega⟩
end Go.Proofs.YtlbgmoijepknbaaGreat
