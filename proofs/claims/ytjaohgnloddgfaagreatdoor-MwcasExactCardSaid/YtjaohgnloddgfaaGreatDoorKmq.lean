/- The law MwcasLinear (merged). -/
import Derived.Test.YtjaohgnloddgfaaGreatDoorKmp
namespace Go.Proofs.YtjaohgnloddgfaaGreatDoor
open Go.RowKit
set_option linter.unusedVariables false
set_option linter.unusedSimpArgs false

theorem LcV.bl {w w' : World} {A : Option Addr} {n c : Nat} {cs : List (Int × Int × List (Int × Int × Int))} (h : LcV w A n c cs) (hB : Below w.heap.size w w') : LcV w' A n c cs := by
  refine ⟨h.1, h.2.1, fun k hk => ?_⟩
  obtain ⟨g, off, A', n', c', h1, h2, h3, t0, t1, t2, h4⟩ := h.2.2 k hk
  have hc : ∀ o, w'.cell? ⟨g, o, none⟩ = w.cell? ⟨g, o, none⟩ := fun o => hB.cell (p := ⟨g, o, none⟩) h2
  exact ⟨g, off, A', n', c', h1, Nat.lt_of_lt_of_le h2 hB.size, h3, by rw [hc]; exact t0, by rw [hc]; exact t1, by rw [hc]; exact t2, h4.bl hB⟩
theorem seenL_all {ms : List MaS} {qs : List TdS} {M : Nat} (h1 : ms.length = M) (h2 : qs.length = M) (h : ∀ i, i < M → (ms.getD i MA0).on = true) : seenL ms qs M = rcs ms qs := by
  have key : ∀ j, j ≤ M → seenL ms qs j = (rcs ms qs).take j := by
    intro j
    induction j with
    | zero => intro _; simp [seenL]
    | succ j ih =>
      intro hj
      rw [seenL_succ, if_pos (h j (by omega)), ih (by omega)]
      have hl : j < (rcs ms qs).length := by rw [length_rcs (by omega)]; omega
      rw [List.take_succ_eq_append_getElem hl]
      congr 2
      simp [rcs, List.getD_eq_getElem?_getD, List.getElem?_eq_getElem (show j < ms.length by omega), List.getElem?_eq_getElem (show j < qs.length by omega)]
  rw [key M (Nat.le_refl _), List.take_of_length_le (by rw [length_rcs (by omega)]; omega)]
section
variable {κ0 : Nat → Nat} {w0 : World} {p d : Nat} {t : Nat → Nat} {L0 : Nat → Int} {B n0 : Nat} {wB w w' : World} {cs : List (Int × Int × List (Int × Int × Int))} {As : Option Addr} {M cA : Nat} {ms : List MaS} {qs : List TdS} {L : Nat → Int}
theorem RunE.ql (h : RunE κ0 w0 p d t L0 B n0 wB cs As M cA ms qs L w) : qs.length = M := by
  rw [h.qe, qsOf_len, List.length_take, h.m3]; omega
theorem RunE.seen (h : RunE κ0 w0 p d t L0 B n0 wB cs As M cA ms qs L w) : seenL ms qs M = rcs ms qs := seenL_all h.ml h.ql h.on
theorem RunE.words (h : RunE κ0 w0 p d t L0 B n0 wB cs As M cA ms qs L w) : ∀ k, k < M → ((rcs ms qs).getD k RC0).word < 8 ∧ ∀ e ∈ ((rcs ms qs).getD k RC0).es, e.word < 8 := by
  intro k hk
  have hql := h.ql
  rw [rcs_get (by rw [hql, h.ml]) (by rw [h.ml]; exact hk)]
  have hq : TdOk (qs[k]'(by omega)) := by
    have := qsOf_get (cs.take M) (i := k) (by rw [← h.qe]; omega)
    rw [← h.qe, List.getD_eq_getElem?_getD, List.getElem?_eq_getElem (by omega : k < qs.length)] at this
    exact this
  exact ⟨hq.1, fun e he => (hq.2.w e he).1⟩
/-- Found, behind a run. -/
theorem RunE.found (h : RunE κ0 w0 p d t L0 B n0 wB cs As M cA ms qs L w) : Calls Tryz.prog 29 #[.pointer (some ⟨d, 0, none⟩)] w (FndPost w L) := by
  obtain ⟨K, σ, N, xs, h1, h2, h3, h4⟩ := h.pl
  exact found17 h1 h2 (fun j hj => h3 _ (by unfold M17; omega)) (fun j hj => h.hL _ (by unfold M17; omega))
theorem RunE.free (h : RunE κ0 w0 p d t L0 B n0 wB cs As M cA ms qs L w) (hB : Below w.heap.size w w') : Calls Tryz.prog 35 #[.pointer (some ⟨p, 0, none⟩)] w' fun e w2 => e = .returned (.int .i64 8) ∧ w' = w2 := by
  obtain ⟨K, σ, N, xs, h1, h2, h3, h4⟩ := h.pl
  have := pwFree (h1.bl0 hB) (by rw [h4]; rfl)
  rw [h4] at this
  exact this
end
set_option maxRecDepth 100000 in
set_option maxHeartbeats 16000000 in
theorem walkLinear (w : World) (hT : Tab w) (A : Option Addr) (n c : Nat) (zs : List Int) (hn : zs.length = n) (hn2 : n < 9223372036854775808) (hR : Rd .u64 w A zs) (hz : ∀ z ∈ zs, 0 ≤ z ∧ z < 18446744073709551616)
    (A1 : Option Addr) (n1 c1 : Nat) (cs : List (Int × Int × List (Int × Int × Int))) (hn1 : n1 < 9223372036854775808) (hLC : LcV w A1 n1 c1 cs) (hLW : LcW cs)
    (A2 : Option Addr) (n2 c2 : Nat) (ps : List Int) (hps : ps.length = n2) (hn22 : n2 < 9223372036854775808) (hP2 : Rd .i64 w A2 ps) (hpr : ∀ z ∈ ps, -9223372036854775808 ≤ z ∧ z < 9223372036854775808) :
    Calls Tryz.prog 7 #[.slice A n c, .slice A1 n1 c1, .slice A2 n2 c2] w fun e w' => e = .returned (.bool true) ∧ Below w.heap.size w w' := by
  have HT := Lib.hid hT
  have HLC := Lib.hid hLC
  have HLW := Lib.hid hLW
  have HP2 := Lib.hid hP2
  have HPR := Lib.hid hpr
  have HPS := Lib.hid hps
  have HVA := Lib.hid (values17 w A n c zs hn hn2 hR hz)
  have hvr := vals17_range zs
  have hvl := length_vals17 zs
  obtain ⟨vs, hvs⟩ : ∃ vs, vals17 zs = vs := ⟨_, rfl⟩
  rw [hvs] at HVA hvr hvl
  have HVR := Lib.hid hvr
  have HVL := Lib.hid hvl
  have HSU : Hid (∀ (W : World) g, IB .u64 23 W g vs → Calls Tryz.prog 13 #[.slice (some ⟨g, 0, none⟩) 8 8] W (SetPost W vs)) := fun W g hI => setup17 W _ 8 _ HVL.out hI.rd0 HVR.out
  have HAW : Hid (∀ W, Below w.heap.size w W → Calls Tryz.prog 15 #[] W fun e w' => e = .returned (.bool true) ∧ Below W.heap.size W w') := fun W hW => awake17 W (HT.out.ch (Ch.of_below (S := fun _ => False) hW) (fun h => h))
  clear hT hR hz hvs hvr hvl hLC hLW hP2 hpr hps
  go_enter Tryz.func7, Tryz.ntmps7
  go_upto_region 5 with (first
    | (go_at_call 14; refine HVA.out.mono ?_; rintro e w' ⟨g0, rfl, hI, hg, hb⟩; have HI := Lib.hid hI; have HG0 := Lib.hid hg; obtain ⟨x0, rfl⟩ := bx_of hb; clear hI hg hb)
    | (go_at_call 13; refine (HSU.out _ _ HI.out).mono ?_; rintro e w1 ⟨p, d, t, S, rfl, hP, hcl, hb⟩; have HP := Lib.hid hP; have HCL := Lib.hid hcl; obtain ⟨x, rfl⟩ := bx_of hb; clear hP hcl hb)
    | (go_at_call 15; refine (HAW.out _ (by (repeat (first | with_reducible exact Below.refl _ _ | with_reducible refine bl_alloc ?_ _ | with_reducible refine bl_drew ?_ | with_reducible refine bl_drewN ?_ _ | with_reducible refine bl_bx ?_ _ | with_reducible exact BX.below _ | with_reducible refine bl_set ?_ (by first | (exact Nat.le_refl _) | (simp; done) | (simp; omega)) _ | assumption)))).mono ?_; rintro e w2 ⟨rfl, hb⟩; obtain ⟨y, rfl⟩ := bx_of hb; clear hb))
  have HBE := Lib.hid ((BegS.start HVR.out HP.out HCL.out x.below (HT.out.ch (Ch.of_below (S := fun _ => False) x0.below) (fun h => h))).below y.below)
  have HRD0 : Hid (Rd .u64 x0.w (some ⟨g0, 0, none⟩) vs) := HI.out.rd0
  obtain ⟨W, hW⟩ : ∃ W, y.w = W := ⟨_, rfl⟩
  rw [hW] at HBE ⊢
  have HFR : Hid (Calls Tryz.prog 35 #[.pointer (some ⟨p, 0, none⟩)] W fun e w' => e = .returned (.int .i64 8) ∧ W = w') := pwFree HBE.out.pm rfl
  have HRN : Hid (Calls Tryz.prog 23 #[.pointer (some ⟨p, 0, none⟩), .slice A1 n1 c1, .slice A2 n2 c2, .bool true] W (RnPost (kap0 x0.w.heap.size) W p d t (L17 vs) 1000 x0.w.heap.size x0.w cs true)) :=
    run17 (by omega) HBE.out A1 n1 c1 cs hn1 (fun W' hW' => (HLC.out.bl x0.below).bl hW') HLW.out A2 n2 c2 ps HPS.out hn22 (fun W' hW' => (HP2.out.below x0.below).below hW') HPR.out true
  clear hW HP HCL HAW HSU HVA HLC HLW HP2 HPR HPS HI
  go_upto_region 9 with (first
    | (go_at_call 35; refine HFR.out.mono ?_; rintro e w' ⟨rfl, rfl⟩)
    | (go_at_call 23; refine HRN.out.mono ?_; intro e w2 hrn; obtain ⟨As, M, cA, ms, qs, L, rfl, hE⟩ := hrn.ended; have HE := Lib.hid hE; clear hE hrn))
  have HM3 : Hid (M ≤ 3) := by show M ≤ 3; have := HE.out.m3; omega
  have HBW : Hid (Below w.heap.size w w2) := x0.below.trans (HE.out.bl.mono x0.size)
  have HSN : Hid (∀ W', Below w2.heap.size w2 W' → Calls Tryz.prog 31 #[.slice As M cA] W' (SnPost W' (rcs ms qs))) := fun W' hW' => by
    have := seen17 W' As M cA ms qs (by have := HM3.out; omega) (HE.out.sn.bl hW')
    rwa [HE.out.seen] at this
  have HLEN : Hid ((rcs ms qs).length = M) := by show _ = _; rw [length_rcs (by rw [HE.out.ql, HE.out.ml])]; exact HE.out.ml
  have HRD2 : Hid (Rd .u64 w2 (some ⟨g0, 0, none⟩) vs) := HRD0.out.below HE.out.bl
  have HEX : Hid (expl (rcs ms qs) (vsOf L) M vs (List.replicate M false) = true) := by
    have := HE.out.ex
    rwa [vs17 vs HVL.out HVR.out] at this
  go_upto_region 10 with (go_at_call 29; refine HE.out.found.mono ?_; rintro e w5 ⟨A5, c5, rfl, hS5, hb5, hO5⟩; have HS5 := Lib.hid hS5; have HB5 := Lib.hid hb5; clear hS5 hb5 hO5)
  go_wp2_with (first
    | (go_at_call 35; refine (HE.out.free HB5.out).mono ?_; rintro e w' ⟨rfl, rfl⟩)
    | (go_at_call 31; refine (HSN.out _ HB5.out).mono ?_; rintro e w6 ⟨A6, c6, rfl, hCl, hb6⟩; rw [HLEN.out] at hCl ⊢; have HCl := Lib.hid hCl; obtain ⟨x6, rfl⟩ := bx_of hb6; clear hCl hb6)
    | (go_at_call 30; refine (refExplains x6.w (some ⟨g0, 0, none⟩) 8 vs HVL.out ((HRD2.out.below HB5.out).below x6.below) A6 M c6 (rcs ms qs) (by have := HM3.out; omega) HCl.out HE.out.words A5 c5 (vsOf L) length_vsOf (HS5.out.rdW.below x6.below)).mono ?_; rw [HEX.out]; rintro e w7 ⟨rfl, hb7⟩; obtain ⟨x7, rfl⟩ := bx_of hb7; clear hb7))
  go_ret
  exact ⟨rfl, bl_bx (bl_bx (HBW.out.trans (HB5.out.mono HBW.out.size)) x6) x7⟩
end Go.Proofs.YtjaohgnloddgfaaGreatDoor
