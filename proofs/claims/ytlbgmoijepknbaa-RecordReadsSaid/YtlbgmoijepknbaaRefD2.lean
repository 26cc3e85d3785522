/- Contract of Decode of the reference of records: the words that pass the first test. -/
import Derived.Test.YtlbgmoijepknbaaRefD
import Derived.Test.YtlbgmoijepknbaaBlk
namespace Go.Proofs.Ytlbgmoijepknbaa
open Go.RowKit
set_option linter.unusedVariables false

theorem parts_zero (D : List Int) (hl : D.length = 7) (u : Nat) (hu : u ≤ 2) : (D.drop (1 + 3 * u)).all (· == 0) = true ↔ ∀ j, u ≤ j → j < 2 → D[1 + 3 * j]?.getD 0 = 0 ∧ D[2 + 3 * j]?.getD 0 = 0 ∧ D[3 + 3 * j]?.getD 0 = 0 := by
  obtain ⟨a0, a1, a2, a3, a4, a5, a6, rfl⟩ : ∃ a0 a1 a2 a3 a4 a5 a6, D = [a0, a1, a2, a3, a4, a5, a6] := by
    match D, hl with
    | [a0, a1, a2, a3, a4, a5, a6], _ => exact ⟨a0, a1, a2, a3, a4, a5, a6, rfl⟩
  have hj : ∀ P : Nat → Prop, (∀ j, u ≤ j → j < 2 → P j) ↔ ((u ≤ 0 → P 0) ∧ (u ≤ 1 → P 1)) := by
    intro P
    constructor
    · intro h; exact ⟨fun h0 => h 0 h0 (by omega), fun h1 => h 1 h1 (by omega)⟩
    · rintro ⟨h0, h1⟩ j hj hj2
      rcases Nat.lt_or_ge j 1 with h | h
      · obtain rfl : j = 0 := by omega
        exact h0 hj
      · obtain rfl : j = 1 := by omega
        exact h1 hj
  rw [hj]
  have hu3 : u = 0 ∨ u = 1 ∨ u = 2 := by omega
  rcases hu3 with rfl | rfl | rfl
  · simp [and_assoc]
  · simp
  · simp
def zpart (D : List Int) (u k : Nat) : Prop := ∀ j, u ≤ j → j < k → D[1 + 3 * j]?.getD 0 = 0 ∧ D[2 + 3 * j]?.getD 0 = 0 ∧ D[3 + 3 * j]?.getD 0 = 0

theorem decV_ok (ws : List Int) (hl : ws.length = 10) (x0 x8 x9 : Int) (u : Nat) (e0 : ws[0]?.getD 0 = x0) (e1 : ws[1]?.getD 0 = (u : Int)) (e8 : ws[8]?.getD 0 = x8) (e9 : ws[9]?.getD 0 = x9) (hb : ¬ rdBad x0 (u : Int) x8 x9) (hx8 : 0 ≤ x8) :
    decV ws = if (((ws.drop 1).take 7).drop (1 + 3 * u)).all (· == 0) = true then (namesDec ((ws.drop 1).take 7) u).map (fun l => (x0 == 1, l, if x8 = 1 then some (wrap64 x9) else none)) else none := by
  have f1 : word0 ((ws.drop 1).take 7) = ws[1]?.getD 0 := by simp [word0]
  have f8 : (ws.drop 1)[7]?.getD 0 = ws[8]?.getD 0 := by simp
  have f9 : (ws.drop 1)[8]?.getD 0 = ws[9]?.getD 0 := by simp
  unfold rdBad at hb
  unfold decV decSI
  have hw0 : word0 ws = x0 := e0
  rw [f8, f9, e8, e9, hw0, if_neg (fun h => hb (.inl h))]
  unfold decS
  rw [f1, e1, if_neg (fun h => hb (.inr (.inl h))), Int.toNat_natCast]
  have hO : decO x8 x9 = some (if x8 = 1 then some (wrap64 x9) else none) := by
    unfold decO
    rw [if_neg (fun h => hb (.inr (.inr (.inl h))))]
    by_cases h8 : x8 = 0
    · rw [if_pos h8, if_pos (by
        refine Decidable.byContradiction fun h9 => hb (.inr (.inr (.inr ⟨h8, h9⟩)))), if_neg (by omega)]
    · rw [if_neg h8, if_pos (by have : ¬ 1 < x8 := fun h => hb (.inr (.inr (.inl h))); omega)]
  rw [hO]
  cases hz : (((ws.drop 1).take 7).drop (1 + 3 * u)).all (· == 0) with
  | false => simp
  | true =>
    simp only [if_true]
    rw [if_neg (by simp)]
    cases namesDec ((ws.drop 1).take 7) u <;> rfl

set_option maxRecDepth 100000 in
set_option maxHeartbeats 8000000 in
theorem refDecode_ok (w : World) (g off c : Nat) (ws : List Int) (hl : ws.length = 10) (hc : 10 ≤ c) (hR : Rd .u64 w (some ⟨g, off, none⟩) ws) (hg : g < w.heap.size) (hw : U64s ws)
    (hb : ¬ rdBad (ws[0]?.getD 0) (ws[1]?.getD 0) (ws[8]?.getD 0) (ws[9]?.getD 0)) :
    Calls Try.prog 49 #[.slice (some ⟨g, off, none⟩) 10 c] w (RefDPost w (decV ws)) := by
  have h0 : w.cell? ⟨g, off, none⟩ = some (.int .u64 (ws[0]?.getD 0)) := hR.cell (j := 0) (by omega)
  have h1 : w.cell? ⟨g, off + 1, none⟩ = some (.int .u64 (ws[1]?.getD 0)) := hR.cell (j := 1) (by omega)
  have h8 : w.cell? ⟨g, off + 8, none⟩ = some (.int .u64 (ws[8]?.getD 0)) := hR.cell (j := 8) (by omega)
  have h9 : w.cell? ⟨g, off + 9, none⟩ = some (.int .u64 (ws[9]?.getD 0)) := hR.cell (j := 9) (by omega)
  have p0 := (hw.getD 0).1
  have p1 := (hw.getD 1).1
  have p8 := (hw.getD 8).1
  have p9 := hw.getD 9
  obtain ⟨u, hu⟩ := Int.eq_ofNat_of_zero_le p1
  have hV := decV_ok ws hl _ _ _ u rfl hu rfl rfl (hu ▸ hb) p8
  have hz := parts_zero ((ws.drop 1).take 7) (by simp [hl]) u (by have : ¬ (2 : Int) < (u : Int) := fun h => hb (.inr (.inl (hu ▸ h))); omega)
  have hD : ∀ j, j < 7 → ((ws.drop 1).take 7)[j]?.getD 0 = ws[1 + j]?.getD 0 := by
    intro j hj
    rw [List.getElem?_take, if_pos hj, List.getElem?_drop]
  rw [hu] at h1
  generalize (ws.drop 1).take 7 = D at *
  generalize ws[0]?.getD 0 = x0 at *
  generalize ws[8]?.getD 0 = x8 at *
  generalize ws[9]?.getD 0 = x9 at *
  have hu2 : u ≤ 2 := by have : ¬ (2 : Int) < (u : Int) := fun h => hb (.inr (.inl (hu ▸ h))); omega
  have a0 : ¬ 1 < x0 := fun h => hb (.inl h)
  have a1 : ¬ (2 : Int) < (u : Int) := by omega
  have a8 : ¬ 1 < x8 := fun h => hb (.inr (.inr (.inl h)))
  have a9 : x8 = 0 → x9 = 0 := fun h => Decidable.byContradiction fun h9 => hb (.inr (.inr (.inr ⟨h, h9⟩)))
  have HV := Lib.hid hV
  have HZ := Lib.hid hz
  have HL := Lib.hid hl
  have HR := Lib.hid hR
  have HW := Lib.hid hw
  have HD := Lib.hid hD
  have H0 := Lib.hid h0
  have H1 := Lib.hid h1
  have H8 := Lib.hid h8
  have H9 := Lib.hid h9
  have hg0 : ¬ g = w.heap.size := by omega
  have hg1 : g < w.heap.size + 1 := by omega
  clear hV hz hl hR hw hD hb hu p1
  have hwc : IntKind.i64.wrap (u : Int) = (u : Int) := IntWalk.i64_in _ (by omega)
  obtain ⟨f, hf⟩ : ∃ f, (x0 == 1) = f := ⟨_, rfl⟩
  rw [hf] at HV
  have hx8 : x8 = 0 ∨ x8 = 1 := by omega
  go_enter Try.func49, Try.ntmps49
  have hx8b : (x8 == 0) = true ∧ (x9 != 0) = false ∨ (x8 == 0) = false := by
    rcases hx8 with rfl | rfl
    · left; exact ⟨rfl, by rw [a9 rfl]; rfl⟩
    · right; rfl
  rcases hx8b with ⟨hx8b, hx9b⟩ | hx8b
  all_goals
    go_wp2
    go_loopw [5, 3, 6, 7, 8, 48, 49, 50, 51, 52, 53, 54, 55, 56, 57, 58, 59, 60, 61, 62, 63, 64, 65, 66, 67, 68, 69, 70, 71, 72, 73, 74, 75, 76, 77, 78, 79, 80, 81, 82, 83, 84, 85, 86, 87, 88, 89, 90, 91, 92, 93, 94, 95, 96] (fun i _ _ _ _ _ _ _ _ _ _ _ _ _ _ _ _ _ _ _ _ _ _ _ _ _ _ _ _ _ _ _ _ _ _ _ _ _ _ _ _ _ _ _ _ _ _ _ _ _ _ _ _ _ wr => ∃ (k : Nat) (A' : Option Addr) (c' : Nat) (l : List ByteArray), k ≤ 2 ∧ i = .int .i64 k ∧ namesDec D (min k u) = some l ∧ zpart D u k ∧ OwnV 9 wr (w.heap.size + 1 + 1) A' c' (strVals l) ∧ CB wr (w.heap.size + 1) 24 #[.bool f, .slice A' (min k u) c', .bool false, .int .i64 0] ∧ CB wr w.heap.size 24 #[.bool false, .slice none 0 0, .bool false, .int .i64 0] ∧ Below w.heap.size w wr) (fun i _ _ _ _ _ _ _ _ _ _ _ _ _ _ _ _ _ _ _ _ _ _ _ _ _ _ _ _ _ _ _ _ _ _ _ _ _ _ _ _ _ _ _ _ _ _ _ _ _ _ _ _ _ _ => 2 - (intOf i).toNat)
    case atStart =>
      refine ⟨0, none, 0, [], by omega, rfl, by rw [Nat.zero_min]; rfl, fun j _ h => by omega, OwnV.nil, ?_, ?_, bl_alloc (bl_alloc (Below.refl _ _) _) _⟩
      · have := CB.new_at (w.alloc (.cells #[.bool false, .slice none 0 0, .bool false, .int .i64 0] 24)) 24 #[.bool f, .slice none 0 0, .bool false, .int .i64 0] (g := w.heap.size + 1) (by simp)
        rw [Nat.zero_min]
        first | exact this | (rw [hf]; exact this) | (rw [← hf] at this; exact this)
      · exact (CB.new w _ _).alloc _
    case round =>
      obtain ⟨k, A', c', l, hk, rfl, hN, hzp, hO, hC1, hC0, hB⟩ := hrel
      have hs0 := hC0.lt
      have hs1 := hC1.lt
      have hgr : g < wr.heap.size := by omega
      have e00 : wr.cell? ⟨w.heap.size, 0, none⟩ = some (.bool false) := hC0.cell 0
      have e01 : wr.cell? ⟨w.heap.size, 1, none⟩ = some (.slice none 0 0) := hC0.cell 1
      have e02 : wr.cell? ⟨w.heap.size, 2, none⟩ = some (.bool false) := hC0.cell 2
      have e03 : wr.cell? ⟨w.heap.size, 3, none⟩ = some (.int .i64 0) := hC0.cell 3
      have f00 := hC0.frozen 0
      have f01 := hC0.frozen 1
      have f02 := hC0.frozen 2
      have f03 := hC0.frozen 3
      have e10 : wr.cell? ⟨w.heap.size + 1, 0, none⟩ = some (.bool f) := hC1.cell 0
      have e11 : wr.cell? ⟨w.heap.size + 1, 1, none⟩ = some (.slice A' (min k u) c') := hC1.cell 1
      have e12 : wr.cell? ⟨w.heap.size + 1, 2, none⟩ = some (.bool false) := hC1.cell 2
      have e13 : wr.cell? ⟨w.heap.size + 1, 3, none⟩ = some (.int .i64 0) := hC1.cell 3
      have f11 := hC1.frozen 1
      have f12 := hC1.frozen 2
      have f13 := hC1.frozen 3
      have w1 : wr.cell? ⟨g, off + 1, none⟩ = some (.int .u64 (u : Int)) := (hB.cell (p := ⟨g, off + 1, none⟩) hg).trans H1.out
      have w8 : wr.cell? ⟨g, off + 8, none⟩ = some (.int .u64 x8) := (hB.cell (p := ⟨g, off + 8, none⟩) hg).trans H8.out
      have w9 : wr.cell? ⟨g, off + 9, none⟩ = some (.int .u64 x9) := (hB.cell (p := ⟨g, off + 9, none⟩) hg).trans H9.out
      have HO := Lib.hid hO
      have HC1 := Lib.hid hC1
      have HC0 := Lib.hid hC0
      have HB := Lib.hid hB
      have HN := Lib.hid hN
      have HZp := Lib.hid hzp
      have HLl := Lib.hid (namesDec_length hN)
      by_cases hlt : k < 2
      · have hget : ∀ j, j < 3 → ∃ y, D[1 + 3 * k + j]?.getD 0 = y ∧ 0 ≤ y ∧ y < 18446744073709551616 ∧ wr.cell? ⟨g, off + (2 + 3 * k) + j, none⟩ = some (.int .u64 y) := by
          intro j hj
          refine ⟨_, rfl, ?_⟩
          rw [HD.out (1 + 3 * k + j) (by omega)]
          refine ⟨(HW.out.getD _).1, (HW.out.getD _).2, ?_⟩
          have h := HR.out.cell (j := 1 + (1 + 3 * k + j)) (by rw [HL.out]; omega)
          rw [show off + (2 + 3 * k) + j = off + (1 + (1 + 3 * k + j)) by omega]
          exact (hB.cell (p := ⟨g, off + (1 + (1 + 3 * k + j)), none⟩) hg).trans h
        obtain ⟨y0, q0, n0, m0, c0⟩ := hget 0 (by omega)
        obtain ⟨y1, q1, n1, m1, c1⟩ := hget 1 (by omega)
        obtain ⟨y2, q2, n2, m2, c2⟩ := hget 2 (by omega)
        have HNA : Hid (nameAt D k = nameDec y0 y1 y2) := by show _ = _; unfold nameAt; rw [← q0, ← q1, ← q2]; congr 3 <;> omega
        have HQ : Hid (D[1 + 3 * k]?.getD 0 = y0 ∧ D[2 + 3 * k]?.getD 0 = y1 ∧ D[3 + 3 * k]?.getD 0 = y2) := by
          show _ ∧ _ ∧ _
          refine ⟨q0, ?_, ?_⟩
          · rw [← q1]; congr 2; omega
          · rw [← q2]; congr 2; omega
        clear hget q0 q1 q2 hO hC1 hC0 hB hN hzp
        rw [Nat.add_zero] at c0
        by_cases hku : k < u
        · have hku' : ¬ (u : Int) ≤ (k : Int) := by omega
          have hmin : min k u = k := by omega
          rw [hmin] at e11 HN HLl
          go_wp2_with fail
          rw [show 5 + 3 * k - (2 + 3 * k) = 3 from by omega]
          refine (refUnname_all _ g _ _ y0 y1 y2 hgr c0 n0 n1 n2 m1 m2 c1 c2).mono ?_
          cases hND : nameDec y0 y1 y2 with
          | none =>
            have HF : Hid (decV ws = none) := by
              show _ = _
              have : namesDec D u = none := by
                refine namesDec_none (k := k + 1) (by omega) ?_
                rw [namesDec, HN.out, HNA.out, hND]
              rw [HV.out, this]; simp
            clear hND
            rintro e w2 ⟨hb2, s, rfl⟩
            obtain ⟨y, rfl⟩ := bx_of hb2
            clear hb2
            have x00 : y.w.cell? ⟨w.heap.size, 0, none⟩ = some (.bool false) := (y.cell _ _ hs0).trans e00
            have x01 : y.w.cell? ⟨w.heap.size, 1, none⟩ = some (.slice none 0 0) := (y.cell _ _ hs0).trans e01
            have x02 : y.w.cell? ⟨w.heap.size, 2, none⟩ = some (.bool false) := (y.cell _ _ hs0).trans e02
            have x03 : y.w.cell? ⟨w.heap.size, 3, none⟩ = some (.int .i64 0) := (y.cell _ _ hs0).trans e03
            go_wp2
            have hBy := bl_bx HB.out y
            exact bodyPost_ret (v := .tuple #[.agg #[.bool false, .slice none 0 0, .bool false, .int .i64 0], .bool false]) (by simp [results, Try.results49, go_sem, x00, x01, x02, x03]) rfl (by unfold RefDPost; rw [HF.out]; exact ⟨(by repeat (first | with_reducible exact Below.refl _ _ | with_reducible refine bl_alloc ?_ _ | with_reducible refine bl_drew ?_ | with_reducible refine bl_drewN ?_ _ | with_reducible refine bl_bx ?_ _ | with_reducible exact BX.below _ | with_reducible refine bl_set ?_ (by first | (exact Nat.le_refl _) | (simp; done) | (simp; omega)) _ | assumption)), rfl⟩)
          | some nm =>
            have HF : Hid (namesDec D (k + 1) = some (l ++ [strOf nm])) := by
              show _ = _
              rw [namesDec, HN.out, HNA.out, hND]
            clear hND
            rintro e w2 ⟨hb2, rfl⟩
            obtain ⟨y, rfl⟩ := bx_of hb2
            clear hb2
            have x11 : y.w.cell? ⟨w.heap.size + 1, 1, none⟩ = some (.slice A' k c') := (y.cell _ _ hs1).trans e11
            have hys := y.size
            have hy1 : w.heap.size + 1 < y.w.heap.size := by omega
            have HO2 := Lib.hid ((HO.out.bx y).alloc (.cells #[.string (strOf nm)] 9))
            have HLk : Hid ((strVals l).length = k) := by show _ = _; rw [length_strVals, HLl.out]
            have HBs : Hid (w.heap.size + 1 + 1 ≤ (y.w.alloc (.cells #[.string (strOf nm)] 9)).heap.size) := (by show _ ≤ _; simp; omega)
            go_wp2_with (at_builtin; refine wpList_append_vals rfl (.tmp 92) (.tmp 94) 22 rfl 9 (.string ⟨#[]⟩) rfl 16 Try.underlying22 info_str (by omega) (w.heap.size + 1 + 1) A' c' (strVals l) k _ _ _ [.string (strOf nm)] rfl rfl HLk.out HO2.out rfl (rdV_one _ _ _) (by simp; rfl) (by rw [HLk.out]; simp; omega) HBs.out ?_; intro A2 c2 w3 HO3 HC3 HW3; have z11 : w3.cell? ⟨w.heap.size + 1, 1, none⟩ = some (.slice A' k c') := (by rw [HC3.out.cells _ _ (by simp; omega) (fun hb => by have := (HO.out.lt hb).1; omega), World.cell?_alloc_past _ _ _ hy1]; exact x11); have z1f : w3.frozen? ⟨w.heap.size + 1, 1, none⟩ = false := (by rw [HC3.out.frozens _ _ (by simp; omega) (fun hb => by have := (HO.out.lt hb).1; omega), World.frozen?_alloc_past _ _ _ hy1, y.frozen _ _ hs1]; exact f11))
            have h6 := HO3.out
            rw [strVals_snoc] at h6
            have hnb : ∀ b, OwnB A2 b → b ≠ w.heap.size + 1 := fun b hb => by have := (h6.lt hb).1; omega
            have h6' := h6.keep (w' := w3.setCell ⟨w.heap.size + 1, 1, none⟩ (.slice A2 (k + 1) c2)) (fun b hb => Below.heap_setCell w3 ⟨w.heap.size + 1, 1, none⟩ _ b (hnb b hb))
            have hC1' := ((((HC1.out.bx y).alloc (.cells #[.string (strOf nm)] 9)).ch HC3.out (fun hb => by have := (HO.out.lt hb).1; omega)).set 1 (.slice A2 (k + 1) c2))
            have hC0' := ((((HC0.out.bx y).alloc (.cells #[.string (strOf nm)] 9)).ch HC3.out (fun hb => by have := (HO.out.lt hb).1; omega)).far (p := ⟨w.heap.size + 1, 1, none⟩) (by show w.heap.size ≠ w.heap.size + 1; omega) (.slice A2 (k + 1) c2))
            have h7 := bl_set (bl_ch (bl_alloc (bl_bx HB.out y) _) HC3.out (fun b hb => by have := (HO.out.lt hb).1; omega)) (p := ⟨w.heap.size + 1, 1, none⟩) (by show _ ≤ w.heap.size + 1; omega) (.slice A2 (k + 1) c2)
            go_roundw
            case rel => exact ⟨k + 1, A2, c2, l ++ [strOf nm], by omega, by go_num, by rw [show min (k + 1) u = k + 1 by omega]; exact HF.out, fun j hj1 hj2 => by omega, h6', by rw [show min (k + 1) u = k + 1 by omega]; exact hC1', hC0', h7⟩
            case measure => simp [intOf]; omega
        · have hku' : (u : Int) ≤ (k : Int) := by omega
          have hmin : min k u = u := by omega
          rw [hmin] at e11 HN HLl
          by_cases hall0 : y0 = 0 ∧ y1 = 0 ∧ y2 = 0
          · obtain ⟨rfl, rfl, rfl⟩ := hall0
            go_wp2
            go_roundw
            case rel => exact ⟨k + 1, A', c', l, by omega, by go_num, by rw [show min (k + 1) u = u by omega]; exact HN.out, fun j hj1 hj2 => by
                rcases Nat.lt_or_ge j k with h | h
                · exact HZp.out j hj1 h
                · obtain rfl : j = k := by omega
                  exact HQ.out, HO.out, by rw [show min (k + 1) u = min k u by omega]; exact HC1.out, HC0.out, HB.out⟩
            case measure => simp [intOf]; omega
          · have HF : Hid (decV ws = none) := by
              show _ = _
              rw [HV.out, if_neg]
              intro h
              have := HZ.out.1 h k (by omega) hlt
              rw [HQ.out.1, HQ.out.2.1, HQ.out.2.2] at this
              exact hall0 this
            by_cases z0 : y0 = 0
            · by_cases z1 : y1 = 0
              · have z2 : (y2 != 0) = true := by rw [bne_iff_ne]; exact fun h => hall0 ⟨z0, z1, h⟩
                subst z0 z1
                clear hall0
                go_wp2
                have hBy := HB.out
                exact bodyPost_ret (v := .tuple #[.agg #[.bool false, .slice none 0 0, .bool false, .int .i64 0], .bool false]) (by simp [results, Try.results49, go_sem, e00, e01, e02, e03]) rfl (by unfold RefDPost; rw [HF.out]; exact ⟨(by repeat (first | with_reducible exact Below.refl _ _ | with_reducible refine bl_alloc ?_ _ | with_reducible refine bl_drew ?_ | with_reducible refine bl_drewN ?_ _ | with_reducible refine bl_bx ?_ _ | with_reducible exact BX.below _ | with_reducible refine bl_set ?_ (by first | (exact Nat.le_refl _) | (simp; done) | (simp; omega)) _ | assumption)), rfl⟩)
              · have z1' : (y1 != 0) = true := by rw [bne_iff_ne]; exact z1
                subst z0
                clear hall0 z1
                go_wp2
                have hBy := HB.out
                exact bodyPost_ret (v := .tuple #[.agg #[.bool false, .slice none 0 0, .bool false, .int .i64 0], .bool false]) (by simp [results, Try.results49, go_sem, e00, e01, e02, e03]) rfl (by unfold RefDPost; rw [HF.out]; exact ⟨(by repeat (first | with_reducible exact Below.refl _ _ | with_reducible refine bl_alloc ?_ _ | with_reducible refine bl_drew ?_ | with_reducible refine bl_drewN ?_ _ | with_reducible refine bl_bx ?_ _ | with_reducible exact BX.below _ | with_reducible refine bl_set ?_ (by first | (exact Nat.le_refl _) | (simp; done) | (simp; omega)) _ | assumption)), rfl⟩)
            · have z0' : (y0 != 0) = true := by rw [bne_iff_ne]; exact z0
              clear hall0 z0
              go_wp2
              have hBy := HB.out
              exact bodyPost_ret (v := .tuple #[.agg #[.bool false, .slice none 0 0, .bool false, .int .i64 0], .bool false]) (by simp [results, Try.results49, go_sem, e00, e01, e02, e03]) rfl (by unfold RefDPost; rw [HF.out]; exact ⟨(by repeat (first | with_reducible exact Below.refl _ _ | with_reducible refine bl_alloc ?_ _ | with_reducible refine bl_drew ?_ | with_reducible refine bl_drewN ?_ _ | with_reducible refine bl_bx ?_ _ | with_reducible exact BX.below _ | with_reducible refine bl_set ?_ (by first | (exact Nat.le_refl _) | (simp; done) | (simp; omega)) _ | assumption)), rfl⟩)
      · obtain rfl : k = 2 := by omega
        have hmin : min 2 u = u := by omega
        rw [hmin] at e11 HN HLl
        have HF : Hid (decV ws = some (f, l, if x8 = 1 then some (wrap64 x9) else none)) := by
          show _ = _
          rw [HV.out, if_pos (HZ.out.2 HZp.out), HN.out]; rfl
        have hnb : ∀ b, OwnB A' b → w.heap.size + 1 < b := fun b hb => by have := (HO.out.lt hb).1; omega
        have HNb := Lib.hid hnb
        clear hnb hO hC1 hC0 hB hN hzp
        rcases hx8 with rfl | rfl
        · go_wp2
          have hF := ((((((((((HO.out.rd).setCell (p := ⟨w.heap.size + 1, 2, none⟩) (fun b hb => by have := HNb.out b hb; show b ≠ w.heap.size + 1; omega) (.bool false))).setCell (p := ⟨w.heap.size, 0, none⟩) (fun b hb => by have := HNb.out b hb; show b ≠ w.heap.size; omega) (.bool f))).setCell (p := ⟨w.heap.size, 1, none⟩) (fun b hb => by have := HNb.out b hb; show b ≠ w.heap.size; omega) (.slice A' u c'))).setCell (p := ⟨w.heap.size, 2, none⟩) (fun b hb => by have := HNb.out b hb; show b ≠ w.heap.size; omega) (.bool false))).setCell (p := ⟨w.heap.size, 3, none⟩) (fun b hb => by have := HNb.out b hb; show b ≠ w.heap.size; omega) (.int .i64 0))
          have hB := bl_set (bl_set (bl_set (bl_set (bl_set (HB.out) (p := ⟨w.heap.size + 1, 2, none⟩) (by show _ ≤ w.heap.size + 1; omega) (.bool false)) (p := ⟨w.heap.size, 0, none⟩) (by show _ ≤ w.heap.size; omega) (.bool f)) (p := ⟨w.heap.size, 1, none⟩) (by show _ ≤ w.heap.size; omega) (.slice A' u c')) (p := ⟨w.heap.size, 2, none⟩) (by show _ ≤ w.heap.size; omega) (.bool false)) (p := ⟨w.heap.size, 3, none⟩) (by show _ ≤ w.heap.size; omega) (.int .i64 0)
          exact bodyPost_ret (v := .tuple #[.agg #[.bool f, .slice A' u c', .bool false, .int .i64 0], .bool true]) (by simp [results, Try.results49, go_sem, e00, e01, e02, e03]) rfl (by unfold RefDPost; rw [HF.out]; exact ⟨hB, A', c', by rw [HLl.out]; rfl, hF, fun b hb => by have := HNb.out b hb; omega⟩)
        · go_wp2
          have hF := ((((((((((((HO.out.rd).setCell (p := ⟨w.heap.size + 1, 2, none⟩) (fun b hb => by have := HNb.out b hb; show b ≠ w.heap.size + 1; omega) (.bool true))).setCell (p := ⟨w.heap.size + 1, 3, none⟩) (fun b hb => by have := HNb.out b hb; show b ≠ w.heap.size + 1; omega) (.int .i64 (wrap64 x9)))).setCell (p := ⟨w.heap.size, 0, none⟩) (fun b hb => by have := HNb.out b hb; show b ≠ w.heap.size; omega) (.bool f))).setCell (p := ⟨w.heap.size, 1, none⟩) (fun b hb => by have := HNb.out b hb; show b ≠ w.heap.size; omega) (.slice A' u c'))).setCell (p := ⟨w.heap.size, 2, none⟩) (fun b hb => by have := HNb.out b hb; show b ≠ w.heap.size; omega) (.bool true))).setCell (p := ⟨w.heap.size, 3, none⟩) (fun b hb => by have := HNb.out b hb; show b ≠ w.heap.size; omega) (.int .i64 (wrap64 x9)))
          have hB := bl_set (bl_set (bl_set (bl_set (bl_set (bl_set (HB.out) (p := ⟨w.heap.size + 1, 2, none⟩) (by show _ ≤ w.heap.size + 1; omega) (.bool true)) (p := ⟨w.heap.size + 1, 3, none⟩) (by show _ ≤ w.heap.size + 1; omega) (.int .i64 (wrap64 x9))) (p := ⟨w.heap.size, 0, none⟩) (by show _ ≤ w.heap.size; omega) (.bool f)) (p := ⟨w.heap.size, 1, none⟩) (by show _ ≤ w.heap.size; omega) (.slice A' u c')) (p := ⟨w.heap.size, 2, none⟩) (by show _ ≤ w.heap.size; omega) (.bool true)) (p := ⟨w.heap.size, 3, none⟩) (by show _ ≤ w.heap.size; omega) (.int .i64 (wrap64 x9))
          exact bodyPost_ret (v := .tuple #[.agg #[.bool f, .slice A' u c', .bool true, .int .i64 (wrap64 x9)], .bool true]) (by simp [results, Try.results49, go_sem, e00, e01, e02, e03]) rfl (by unfold RefDPost; rw [HF.out]; exact ⟨hB, A', c', by rw [HLl.out]; rfl, hF, fun b hb => by have := HNb.out b hb; omega⟩)
end Go.Proofs.Ytlbgmoijepknbaa
