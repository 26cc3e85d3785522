/- The law QueuePlays (merged). -/
import Derived.Test.YtaefkelaffijbaaGreatDoorKqv
import Derived.Deep.RegionHeld3
namespace Go.Proofs.YtaefkelaffijbaaGreatDoor
open Go.RowKit
set_option linter.unusedVariables false
set_option linter.unusedSimpArgs false
/-- Where QueuePlays is. -/
def PlQ (w : World) (p d q n lines P : Nat) (t : Nat → Nat) (j : Nat) (A : Option Addr) (m c : Nat) (wr : World) : Prop :=
  ∃ (κ : Nat → Nat) (vs : List Int) (N : Nat) (σ : PwS) (xs : List Int) (L : Nat → Int), QRs κ p d q n lines P t wr vs N σ xs L ∧ N ≤ 400 + 4559 * j ∧ vs.length = m ∧ m ≤ c ∧ Rd .u64 wr A vs ∧ (∀ b, OwnB A b → κ b = 1 ∧ b < wr.heap.size) ∧ (∀ b, b < w.heap.size → κ b = 1 ∧ wr.heap[b]? = w.heap[b]?) ∧ Below w.heap.size w wr
set_option maxRecDepth 100000 in
set_option maxHeartbeats 8000000 in
theorem law_QueuePlays (w : World) (hT : Tab w) (z : Int) (hz : -9223372036854775808 ≤ z ∧ z < 9223372036854775808) (Ac : Option Addr) (len cap : Nat) (cs : List (Bool × Int × Int)) (hcs : IsCs w Ac len cap cs) :
    Calls Tryz.prog 6 #[.int .i64 z, .slice Ac len cap] w fun e w' => e = .returned (.bool true) ∧ Below w.heap.size w w' := by
  have HBE := Lib.hid (fBegin30 w hT z hz)
  have HAW := Lib.hid (fun (W : World) (hW : Below w.heap.size w W) => fawake30 W (hT.below hW))
  have HCS := Lib.hid hcs
  have hcap : (cap : Int) < 9223372036854775808 := by have := hcs.2.2.1; omega
  have hlc : (len : Int) ≤ (cap : Int) := by have := hcs.2.1; omega
  have HW0 := Lib.hid hT.1
  clear hT hz hcs
  go_enter Tryz.func6, Tryz.ntmps6
  go_wp2_with (first
    | (go_at_call 10; (with_reducible refine HBE.out.mono ?_); rintro e w1 ⟨d, p, q, n, lines, t, σ, N, xs, L, rfl, hl, hq1, hq2, hQ, hW, hN, hb1⟩; have HB1 := Lib.hid hb1; have HX := Lib.hid (And.intro hq1 (And.intro hQ (And.intro hW (And.intro hN hl)))); clear hl hq1 hq2 hQ hW hN hb1)
    | (go_at_call 11; refine (HAW.out _ HB1.out).mono ?_; rintro e w2 ⟨rfl, hb2⟩; have HB2 := Lib.hid hb2; clear hb2))
  obtain ⟨P, hP⟩ : ∃ P, 8 * (lines - 1) = P := ⟨_, rfl⟩
  have HI0 : Hid (PlQ w p d q n lines P t 0 none 0 0 w2) := by
    obtain ⟨hq1, hQ, hW, hN, hl⟩ := HX.out
    rw [← hP]
    have h1 : QRs (rolB w q) p d q n lines (8 * (lines - 1)) t w1 [] N σ xs L := ⟨hQ, hW, fun b _ => rolB_le w q b⟩
    have h2 := h1.ch HB2.out
    have hb12 : Below w.heap.size w w2 := HB1.out.trans (HB2.out.mono HB1.out.size)
    refine ⟨_, [], N, σ, xs, L, h2, by omega, rfl, Nat.le_refl _, Rd.nil, fun b hb => by simp [OwnB] at hb, fun b hb => ⟨?_, hb12.block b hb⟩, hb12⟩
    rw [rolN_old (Nat.lt_of_lt_of_le hb HB1.out.size)]
    unfold rolB
    rw [if_neg (by omega), if_pos hb]
  have HP4 : Hid (P ≤ 1000 ∧ lines < 1000) := by have := HX.out.2.2.2.2; refine ⟨?_, ?_⟩ <;> omega
  clear HB1 HX HB2 hP HAW HBE
  go_loopw [9, 8, 4, 10, 11, 12, 13, 14, 15, 28, 29, 30, 31, 32, 33, 34, 35, 36, 37, 38, 39, 40, 41, 42, 43, 44, 45, 46, 47, 48, 49, 50, 51, 52, 53, 54, 55, 56, 57, 58, 59, 60, 61, 62, 63, 64, 65, 66, 67, 68, 69, 70, 71, 72, 73, 74, 75, 76, 77, 78, 79, 80, 81, 82, 83, 84, 85, 86, 87, 88, 89, 90, 91, 92] (fun i v _ _ _ _ _ _ _ _ _ _ _ _ _ _ _ _ _ _ _ _ _ _ _ _ _ _ _ _ _ _ _ _ _ _ _ _ _ _ _ _ _ _ _ _ _ _ _ _ _ _ _ _ _ _ _ _ _ _ _ _ _ _ _ _ _ _ _ _ _ _ _ _ wr => ∃ (j : Nat) (A : Option Addr) (m c : Nat), j ≤ len ∧ j ≤ 40 ∧ i = .int .i64 j ∧ v = .slice A m c ∧ PlQ w p d q n lines P t j A m c wr) (fun i _ _ _ _ _ _ _ _ _ _ _ _ _ _ _ _ _ _ _ _ _ _ _ _ _ _ _ _ _ _ _ _ _ _ _ _ _ _ _ _ _ _ _ _ _ _ _ _ _ _ _ _ _ _ _ _ _ _ _ _ _ _ _ _ _ _ _ _ _ _ _ _ _ _ => len - (intOf i).toNat)
  case atStart => exact ⟨0, none, 0, 0, by omega, by omega, rfl, rfl, HI0.out⟩
  case round =>
    clear HI0
    obtain ⟨j, A, m, c, hj, hj40, rfl, rfl, hI⟩ := hrel
    by_cases hgo : j < len ∧ j < 40
    · obtain ⟨hlt, hlt4⟩ := hgo
      have hlt' : (j : Int) < (len : Int) := by omega
      have hlt4' : (j : Int) < 40 := by omega
      have e1 : IntKind.i64.wrap ((j : Int) + 1) = (j : Int) + 1 := IntWalk.i64_in _ (by omega)
      obtain ⟨g, off, hAc, hgl, hcel⟩ := HCS.out.2.2.2.1 (by omega)
      obtain ⟨κ, vs, N, σ, xs, L, hR, hN, hvl, hmc, hrd, hown, hkw, hbw⟩ := hI
      obtain ⟨cj, hcj⟩ : ∃ cj, cs.getD j RC30 = cj := ⟨_, rfl⟩
      have hcr := HCS.out.2.2.2.2 (cs.getD j RC30) (by rw [List.getD_eq_getElem?_getD, List.getElem?_eq_getElem (by rw [HCS.out.1]; exact hlt)]; exact List.getElem_mem _)
      have hLF : LfV κ wr (some ⟨g, off + j * 3, none⟩) 1 (cap - j) [cj] := by
        refine ⟨rfl, by omega, fun _ => ⟨g, off + j * 3, rfl, (hkw g hgl).1, Nat.lt_of_lt_of_le hgl hbw.size, fun k hk => ?_⟩⟩
        obtain rfl : k = 0 := by omega
        have hc : ∀ o, wr.cell? ⟨g, o, none⟩ = w.cell? ⟨g, o, none⟩ := fun o => by unfold World.cell?; dsimp only; rw [(hkw g hgl).2]
        have := hcel j hlt
        rw [hcj] at this
        rw [hc, hc, hc]
        simpa using this
      rw [hcj] at hcr
      have HRN := Lib.hid (frunOne hR (some ⟨g, off + j * 3, none⟩) (cap - j) cj hLF hcr (by omega))
      obtain ⟨ins, cv, ct⟩ := cj
      obtain ⟨val, hval⟩ : ∃ val, cv % 1099511627776 = val := ⟨_, rfl⟩
      dsimp only at HRN
      rw [hval] at HRN
      have HF := Lib.hid (And.intro hN (And.intro hvl (And.intro hmc (And.intro hrd (And.intro hown (And.intro hkw hbw))))))
      have hle := (hR.quV HP4.out.2).choose_spec.ab.le
      have HLE : Hid (vs.length ≤ P) := hle
      subst hAc
      have b1 : (j : Int) + 1 ≤ (cap : Int) := by omega
      have b2 : (0 : Int) ≤ (j : Int) := by omega
      have b3 : (j : Int) ≤ (j : Int) + 1 := by omega
      clear hcel hR hN hvl hmc hrd hown hkw hbw hLF hcr hcj hle hval
      go_upto_region 12 with (go_at_call 12; (with_reducible refine HRN.out.mono ?_); rintro e w2 ⟨gA, oA, cm, g1, a, bg, en, κ', N', σ', xs', L', rfl, x1, x2, hM1, hR2, hN2, hk2, hC2⟩; have HM1 := Lib.hid hM1; have HR2 := Lib.hid hR2; have HF2 := Lib.hid (And.intro hN2 (And.intro hk2 hC2)); have m0 := hM1.cell 1; have m1 := hM1.cell 2; have m2 := hM1.cell 3; have m3 := hM1.cell 4; have m4 := hM1.cell 5; have m5 := hM1.cell 6; have m6 := hM1.cell 7; have ml := hM1.lt; clear hM1 hR2 hN2 hk2 hC2)
      obtain ⟨fq, hV⟩ := HR2.out.quV HP4.out.2
      obtain ⟨hN, hvl, hmc, hrd, hown, hkw, hbw⟩ := HF.out
      obtain ⟨hN2, hk2, hC2⟩ := HF2.out
      have hle := HLE.out
      have hP1 := HP4.out.1
      obtain ⟨⟨nq, gv, ge⟩, hq⟩ : ∃ r, qApp P vs ins val = r := ⟨_, rfl⟩
      have HCA : Hid (∀ W, Below w2.heap.size w2 W → Calls Tryz.prog 24 #[.pointer (some ⟨q, 0, none⟩)] W fun e w' => e = .returned (.int .i64 (P : Int)) ∧ W = w') := fun W hW => quCap (hV.bl hW)
      have HAP : Hid (∀ W, Below w2.heap.size w2 W → Calls Tryz.prog 23 #[.slice A m c, .int .i64 (P : Int), .bool ins, .int .u64 val] W (ApP30 A W (nq, gv, ge))) := fun W hW => by
        have := refApply30 W A m c vs hvl (by omega) hmc ((rdK hrd (fun b hb => (hown b hb).1) hC2).below hW) P hP1 ins val
        rwa [hq] at this
      rw [hq] at hV
      have HBK : Hid (∀ W A4 m4 c4, Below w2.heap.size w2 W → nq.length = m4 → Rd .u64 W A4 nq → Calls Tryz.prog 25 #[.pointer (some ⟨q, 0, none⟩), .slice A4 m4 c4] W fun e w' => e = .returned (.bool true) ∧ Below W.heap.size W w') := fun W A4 m4 c4 hW hl hr => fbooks30 (hV.bl hW) A4 m4 c4 hl hr
      simp only [hq] at m5 m6 ⊢
      have HQ := Lib.hid hq
      clear hV hN hvl hmc hrd hown hkw hbw hN2 hk2 hC2 hle hP1 hq
      go_region_held3 (fun w' => w'.cell? ⟨w2.heap.size, 0, none⟩ = some (.bool ins) ∧ w'.cell? ⟨w2.heap.size, 1, none⟩ = some (.int .u64 val) ∧ w'.cell? ⟨w2.heap.size, 4, none⟩ = some (.bool true) ∧ w'.cell? ⟨w2.heap.size, 5, none⟩ = some (.int .u64 gv) ∧ w'.cell? ⟨w2.heap.size, 6, none⟩ = some (.int .i64 ge) ∧ w2.heap.size < w'.heap.size)
        ((refine ⟨?_, ?_, ?_, ?_, ?_, ?_⟩ <;> first | assumption | (go_simp; done) | (simp; omega)))
        (first
          | (go_at_call 24; (with_reducible refine (HCA.out _ (by (repeat (first | with_reducible (first | exact Below.refl _ _ | refine bl_alloc ?_ _ | refine bl_drew ?_ | refine bl_drewN ?_ _ | refine bl_bx ?_ _ | exact BX.below _ | refine bl_set ?_ (by first | (exact Nat.le_refl _) | (simp; done) | (simp; omega)) _) | assumption)))).mono ?_); rintro e w3 ⟨rfl, rfl⟩)
          | (go_at_call 23; (with_reducible refine (HAP.out _ (by (repeat (first | with_reducible (first | exact Below.refl _ _ | refine bl_alloc ?_ _ | refine bl_drew ?_ | refine bl_drewN ?_ _ | refine bl_bx ?_ _ | exact BX.below _ | refine bl_set ?_ (by first | (exact Nat.le_refl _) | (simp; done) | (simp; omega)) _) | assumption)))).mono ?_); rintro e w4 ⟨A4, m4, c4, rfl, hl4, hmc4, hr4, hb4, ho4⟩; have HA4 := Lib.hid (And.intro hl4 (And.intro hmc4 (And.intro hr4 ho4))); have HBW4 : Hid (Below w2.heap.size w2 w4) := (by show Below _ _ _; exact (by (repeat (first | with_reducible (first | exact Below.refl _ _ | refine bl_alloc ?_ _ | refine bl_drew ?_ | refine bl_drewN ?_ _ | refine bl_bx ?_ _ | exact BX.below _ | refine bl_set ?_ (by first | (exact Nat.le_refl _) | (simp; done) | (simp; omega)) _) | assumption)) : Below w2.heap.size w2 _).trans (hb4.mono (by first | (simp; done) | (simp; omega) | omega))); obtain ⟨y, rfl⟩ := bx_of hb4; clear hl4 hmc4 hr4 hb4 ho4))
      go_wp2_with (go_at_call 25; (with_reducible refine (HBK.out _ A4 m4 c4 (by first | exact HBW4.out | (exact HBW4.out.trans ((by (repeat (first | with_reducible (first | exact Below.refl _ _ | refine bl_alloc ?_ _ | refine bl_drew ?_ | refine bl_drewN ?_ _ | refine bl_bx ?_ _ | exact BX.below _ | refine bl_set ?_ (by first | (exact Nat.le_refl _) | (simp; done) | (simp; omega)) _) | assumption)) : Below y.w.heap.size y.w _).mono HBW4.out.size))) HA4.out.1 HA4.out.2.2.1).mono ?_); rintro e w5 ⟨rfl, hb5⟩; have HB5 : Hid (Below w2.heap.size w2 w5) := HBW4.out.trans (hb5.mono HBW4.out.size); have HB5y := Lib.hid hb5; clear hb5)
      refine ⟨⟨j + 1, A4, m4, c4, by omega, by omega, by go_num, rfl, ?_⟩, by simp [intOf]; omega⟩
      obtain ⟨hN, hvl, hmc, hrd, hown, hkw, hbw⟩ := HF.out
      obtain ⟨hN2, hk2, hC2⟩ := HF2.out
      obtain ⟨hl4, hmc4, hr4, ho4⟩ := HA4.out
      have hR5 := HR2.out.ch HB5.out
      rw [HQ.out] at hR5
      have hs1 := hbw.size
      have hs2 := hC2.size
      have hs5 := HB5y.out.size
      refine ⟨_, nq, N', σ', xs', L', hR5, by omega, hl4, hmc4, hr4.below HB5y.out, fun b hb => ?_, fun b hb => ⟨?_, ?_⟩, ?_⟩
      · rcases ho4 b hb with ⟨h1, h2⟩ | h1
        · have h3 : w2.heap.size ≤ b := by simp at h1; omega
          exact ⟨rolN_new h3 (by omega), by omega⟩
        · obtain ⟨h2, h3⟩ := hown b h1
          refine ⟨?_, by have := HB5.out.size; omega⟩
          rw [rolN_old (by omega), hk2 b h3]; exact h2
      · rw [rolN_old (by omega), hk2 b (by omega)]; exact (hkw b hb).1
      · rw [HB5.out.block b (by omega), hC2.block b (by omega) (fun hx => by have := (hkw b hb).1; omega)]; exact (hkw b hb).2
      · have hb2 : Below w.heap.size w w2 := bl_ch hbw hC2 (fun b hb => by
          by_cases hlt : b < w.heap.size
          · have := (hkw b hlt).1; omega
          · omega)
        exact hb2.trans (HB5.out.mono hb2.size)
    · have HI := Lib.hid hI
      clear hI
      by_cases hlt : j < len
      · have hlt' : (j : Int) < (len : Int) := by omega
        have hlt4' : ¬ (j : Int) < 40 := by omega
        go_wp2
        obtain ⟨_, _, _, _, _, _, _, _, _, _, _, _, _, hbw⟩ := HI.out
        exact bodyPost_ret (v := .bool true) (by simp [results, Tryz.results6, go_sem]) rfl ⟨rfl, hbw⟩
      · have hlt' : ¬ (j : Int) < (len : Int) := by omega
        go_wp2
        obtain ⟨_, _, _, _, _, _, _, _, _, _, _, _, _, hbw⟩ := HI.out
        exact bodyPost_ret (v := .bool true) (by simp [results, Tryz.results6, go_sem]) rfl ⟨rfl, hbw⟩
end Go.Proofs.YtaefkelaffijbaaGreatDoor
