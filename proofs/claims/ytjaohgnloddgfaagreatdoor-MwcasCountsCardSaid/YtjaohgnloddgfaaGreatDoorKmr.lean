/- The law MwcasCounts (merged). -/
import Derived.Test.YtjaohgnloddgfaaGreatDoorKmq
namespace Go.Proofs.YtjaohgnloddgfaaGreatDoor
open Go.RowKit
set_option linter.unusedVariables false
set_option linter.unusedSimpArgs false

/-- The counts behind x machines. -/
def cnL (ms : List MaS) (qs : List TdS) (x : Nat) : List Int := (List.range 8).map fun j => ((((List.range x).map (ctI ms qs j)).sum : Nat) : Int)
/-- .. and y entries of the next. -/
def cnI (ms : List MaS) (qs : List TdS) (x : Nat) (es : List REnt) (y : Nat) : List Int := (List.range 8).map fun j => ((((List.range x).map (ctI ms qs j)).sum + (es.take y).countP (fun e => e.word == j) : Nat) : Int)
theorem length_cnI (ms : List MaS) (qs : List TdS) (x : Nat) (es : List REnt) (y : Nat) : (cnI ms qs x es y).length = 8 := by simp [cnI]
theorem cnI_zero (ms : List MaS) (qs : List TdS) (x : Nat) (es : List REnt) : cnI ms qs x es 0 = cnL ms qs x := by simp [cnI, cnL]
theorem cnI_get (ms : List MaS) (qs : List TdS) (x : Nat) (es : List REnt) (y : Nat) {j : Nat} (hj : j < 8) : gt0 (cnI ms qs x es y) j = ((((List.range x).map (ctI ms qs j)).sum + (es.take y).countP (fun e => e.word == j) : Nat) : Int) := by simp [gt0, cnI, hj]
theorem cnI_succ (ms : List MaS) (qs : List TdS) (x : Nat) (es : List REnt) {y : Nat} (hy : y < es.length) (hw : (es.getD y RE0).word < 8) : cnI ms qs x es (y + 1) = (cnI ms qs x es y).set (es.getD y RE0).word (gt0 (cnI ms qs x es y) (es.getD y RE0).word + 1) := by
  rw [cnI_get ms qs x es y hw]
  apply List.ext_getElem
  · simp [cnI]
  · intro j h1 h2
    simp only [cnI, List.getElem_set, List.getElem_map, List.getElem_range]
    rw [List.take_succ_eq_append_getElem hy, List.countP_append]
    have he : es[y] = es.getD y RE0 := by rw [List.getD_eq_getElem?_getD, List.getElem?_eq_getElem hy]; rfl
    rw [he]
    by_cases hj : (es.getD y RE0).word = j
    · subst hj
      rw [if_pos rfl]
      simp
      omega
    · rw [if_neg hj]
      have h0 : ((es.getD y RE0).word == j) = false := by simpa using hj
      have h1 : List.countP (fun e => e.word == j) [es.getD y RE0] = 0 := by rw [List.countP_cons, h0]; rfl
      rw [h1]; rfl
theorem cnI_all (ms : List MaS) (qs : List TdS) (x : Nat) (h : (ms.getD x MAd).ok = true) : cnI ms qs x (qs.getD x ⟨0, []⟩).es (qs.getD x ⟨0, []⟩).es.length = cnL ms qs (x + 1) := by
  unfold cnI cnL
  refine List.map_congr_left (fun j _ => ?_)
  rw [List.take_length, List.range_succ, List.map_append, List.sum_append]
  simp only [List.map_cons, List.map_nil, List.sum_cons, List.sum_nil, Nat.add_zero]
  unfold ctI ctN
  rw [if_pos h]
theorem cnL_skip (ms : List MaS) (qs : List TdS) (x : Nat) (h : (ms.getD x MAd).ok = false) : cnL ms qs (x + 1) = cnL ms qs x := by
  unfold cnL
  refine List.map_congr_left (fun j _ => ?_)
  rw [List.range_succ, List.map_append, List.sum_append]
  simp only [List.map_cons, List.map_nil, List.sum_cons, List.sum_nil, Nat.add_zero]
  have : ctI ms qs j x = 0 := by unfold ctI ctN; rw [h]; rfl
  rw [this]; rfl
theorem cnI_le (ms : List MaS) (qs : List TdS) (x : Nat) (es : List REnt) (y : Nat) {j : Nat} (hj : j < 8) (hq : ∀ i, i < x → TdOk (qs.getD i ⟨0, []⟩)) : 0 ≤ gt0 (cnI ms qs x es y) j ∧ gt0 (cnI ms qs x es y) j ≤ x + es.length := by
  rw [cnI_get ms qs x es y hj]
  have h1 : ∀ x, (∀ i, i < x → TdOk (qs.getD i ⟨0, []⟩)) → ((List.range x).map (ctI ms qs j)).sum ≤ x := by
    intro x
    induction x with
    | zero => intro _; simp
    | succ x ih =>
      intro h
      rw [List.range_succ, List.map_append, List.sum_append]
      simp only [List.map_cons, List.map_nil, List.sum_cons, List.sum_nil, Nat.add_zero]
      have := ih (fun i hi => h i (by omega))
      have h2 : ctI ms qs j x ≤ 1 := ctN_le _ (h x (by omega)) j
      omega
  have h3 := h1 x hq
  have h4 : (es.take y).countP (fun e => e.word == j) ≤ (es.take y).length := List.countP_le_length
  simp at h4
  omega
set_option maxRecDepth 100000 in
set_option maxHeartbeats 16000000 in
theorem walkCounts (w : World) (hT : Tab w) (A : Option Addr) (n c : Nat) (zs : List Int) (hn : zs.length = n) (hn2 : n < 9223372036854775808) (hR : Rd .u64 w A zs) (hz : ∀ z ∈ zs, 0 ≤ z ∧ z < 18446744073709551616)
    (A1 : Option Addr) (n1 c1 : Nat) (cs : List (Int × Int × List (Int × Int × Int))) (hn1 : n1 < 9223372036854775808) (hLC : LcV w A1 n1 c1 cs) (hLW : LcW cs)
    (A2 : Option Addr) (n2 c2 : Nat) (ps : List Int) (hps : ps.length = n2) (hn22 : n2 < 9223372036854775808) (hP2 : Rd .i64 w A2 ps) (hpr : ∀ z ∈ ps, -9223372036854775808 ≤ z ∧ z < 9223372036854775808) :
    Calls Tryz.prog 4 #[.slice A n c, .slice A1 n1 c1, .slice A2 n2 c2] w fun e w' => e = .returned (.bool true) ∧ Below w.heap.size w w' := by
  have HT := Lib.hid hT
  have HLC := Lib.hid hLC
  have HLW := Lib.hid hLW
  have HP2 := Lib.hid hP2
  have HPR := Lib.hid hpr
  have HPS := Lib.hid hps
  have HVA := Lib.hid (values17 w A n c zs hn hn2 hR hz)
  have hvr := vals17_range zs
  have hvl := length_vals17 zs
  obtain ⟨vs, hvs⟩ : ∃ vs, vals17 zs = vs := ⟨_, rfl⟩
  rw [hvs] at HVA hvr hvl
  have HVR := Lib.hid hvr
  have HVL := Lib.hid hvl
  have HSU : Hid (∀ (W : World) g, IB .u64 23 W g vs → Calls Tryz.prog 13 #[.slice (some ⟨g, 0, none⟩) 8 8] W (SetPost W vs)) := fun W g hI => setup17 W _ 8 _ HVL.out hI.rd0 HVR.out
  have HAW : Hid (∀ W, Below w.heap.size w W → Calls Tryz.prog 15 #[] W fun e w' => e = .returned (.bool true) ∧ Below W.heap.size W w') := fun W hW => awake17 W (HT.out.ch (Ch.of_below (S := fun _ => False) hW) (fun h => h))
  clear hT hR hz hvs hvr hvl hLC hLW hP2 hpr hps
  go_enter Tryz.func4, Tryz.ntmps4
  go_upto_region 4 with (first
    | (go_at_call 14; refine HVA.out.mono ?_; rintro e w' ⟨g0, rfl, hI, hg, hb⟩; have HI := Lib.hid hI; have HG0 := Lib.hid hg; obtain ⟨x0, rfl⟩ := bx_of hb; clear hI hg hb)
    | (go_at_call 13; refine (HSU.out _ _ HI.out).mono ?_; rintro e w1 ⟨p, d, t, S, rfl, hP, hcl, hb⟩; have HP := Lib.hid hP; have HCL := Lib.hid hcl; obtain ⟨x, rfl⟩ := bx_of hb; clear hP hcl hb)
    | (go_at_call 15; refine (HAW.out _ (by (repeat (first | with_reducible exact Below.refl _ _ | with_reducible refine bl_alloc ?_ _ | with_reducible refine bl_drew ?_ | with_reducible refine bl_drewN ?_ _ | with_reducible refine bl_bx ?_ _ | with_reducible exact BX.below _ | with_reducible refine bl_set ?_ (by first | (exact Nat.le_refl _) | (simp; done) | (simp; omega)) _ | assumption)))).mono ?_; rintro e w2 ⟨rfl, hb⟩; obtain ⟨y, rfl⟩ := bx_of hb; clear hb))
  have HBE := Lib.hid ((BegS.start HVR.out HP.out HCL.out x.below (HT.out.ch (Ch.of_below (S := fun _ => False) x0.below) (fun h => h))).below y.below)
  obtain ⟨W, hW⟩ : ∃ W, y.w = W := ⟨_, rfl⟩
  rw [hW] at HBE ⊢
  have HRN : Hid (Calls Tryz.prog 23 #[.pointer (some ⟨p, 0, none⟩), .slice A1 n1 c1, .slice A2 n2 c2, .bool true] W (RnPost p d t (L17 vs) 1000 x0.w.heap.size x0.w cs true)) :=
    run17 (by omega) HBE.out A1 n1 c1 cs hn1 (fun W' hW' => (HLC.out.bl x0.below).bl hW') HLW.out A2 n2 c2 ps HPS.out hn22 (fun W' hW' => (HP2.out.below x0.below).below hW') HPR.out true
  clear hW HP HCL HAW HSU HVA HLC HLW HP2 HPR HPS HI
  go_upto_region 7 with (go_at_call 23; refine HRN.out.mono ?_; intro e w2 hrn; obtain ⟨As, M, cA, ms, qs, L, rfl, hE⟩ := hrn.ended; have HE := Lib.hid hE; clear hE hrn)
  have HM3 : Hid (M ≤ 3) := by show M ≤ 3; have := HE.out.m3; omega
  have hm3 : M ≤ 3 := HM3.out
  have HBW : Hid (Below w.heap.size w w2) := x0.below.trans (HE.out.bl.mono x0.size)
  have HQO : Hid (∀ i, i < M → TdOk (qs.getD i ⟨0, []⟩)) := fun i hi => by
    have := qsOf_get (cs.take M) (i := i) (by rw [← HE.out.qe, HE.out.ql]; exact hi)
    rw [← HE.out.qe] at this; exact this
  have HCT : Hid (∀ j, j < 8 → L (288 + j) / 1099511627776 = gt0 (cnL ms qs M) j) := fun j hj => by
    have h0 : L17 vs (288 + j) / 1099511627776 = ((0 : Nat) : Int) := by
      rw [L17_get vs hj]
      have := HVR.out j
      omega
    rw [HE.out.ct j hj 0 h0 (by omega), ← cnI_zero ms qs M [], cnI_get ms qs M [] 0 hj]
    simp
  have HLR : Hid (∀ j, j < 8 → 0 ≤ L (288 + j) ∧ L (288 + j) < 4611686018427387904) := fun j hj => HE.out.hL _ (by unfold M17; omega)
  have hmk := fun W => run_make_z (P := Tryz.prog) 28 23 .u64 .i64 .i64 8 8 rfl Tryz.underlying28 8 info_u64 (by omega) (by omega) W
  go_upto_region 8 with (fail)
  have HI0 : Hid (IB .u64 23 (w2.alloc (.cells (ia .u64 [0, 0, 0, 0, 0, 0, 0, 0]) 23)) w2.heap.size (cnL ms qs 0)) := by
    have e : cnL ms qs 0 = [0, 0, 0, 0, 0, 0, 0, 0] := by simp [cnL, List.range_succ]
    rw [e]; exact IB.new _ _
  have HB0 : Hid (Below w2.heap.size w2 (w2.alloc (.cells (ia .u64 [0, 0, 0, 0, 0, 0, 0, 0]) 23))) := bl_alloc (Below.refl _ _) _
  obtain ⟨gC, hgC⟩ : ∃ g, w2.heap.size = g := ⟨_, rfl⟩
  have HG : Hid (w2.heap.size ≤ gC) := by show _ ≤ _; omega
  obtain ⟨W0, hW0⟩ : ∃ W0, w2.alloc (.cells (ia .u64 [0, 0, 0, 0, 0, 0, 0, 0]) 23) = W0 := ⟨_, rfl⟩
  rw [hgC, hW0]
  rw [hgC, hW0] at HI0
  rw [hW0] at HB0
  clear hmk hgC hW0
  go_wp2
  go_loopw [42, 13, 15, 43, 44, 45, 46, 47, 48, 49, 50, 51, 52, 53, 54, 55, 56, 57, 58, 59, 60, 61, 62, 63, 64, 65, 66, 67, 68, 69] (fun i _ _ _ _ _ _ _ _ _ _ _ _ _ _ _ _ _ _ _ _ _ _ _ _ _ _ _ _ _ wr => ∃ x : Nat, x ≤ M ∧ i = .int .i64 x ∧ IB .u64 23 wr gC (cnL ms qs x) ∧ Below w2.heap.size w2 wr) (fun i _ _ _ _ _ _ _ _ _ _ _ _ _ _ _ _ _ _ _ _ _ _ _ _ _ _ _ _ _ _ => M - (intOf i).toNat)
  case atStart => exact ⟨0, by omega, rfl, HI0.out, HB0.out⟩
  case round =>
    clear HI0 HB0
    obtain ⟨x, hx, rfl, hI, hB⟩ := hrel
    have HI := Lib.hid hI
    have HB := Lib.hid hB
    by_cases hlt : x < M
    · have hlt' : (x : Int) < (M : Int) := by omega
      obtain ⟨gS, oS, g, Am, cm, hAs, hgS0, hcS0, hCB0, hRs, hes⟩ := HE.out.sn x hlt
      have hcS := (hB.cell (p := ⟨gS, oS + x, none⟩) hgS0).trans hcS0
      have hgS : gS < wr.heap.size := Nat.lt_of_lt_of_le hgS0 hB.size
      have hCB := hCB0.keep (hB.block g hCB0.lt)
      obtain ⟨_, _, _, _, k4, _, _, _, k8, _, _, _, hgl, _⟩ := mcs_cells hCB
      have HAL := Lib.hid (cnI_all ms qs x)
      have HSK := Lib.hid (cnL_skip ms qs x)
      have HQX : Hid (TdOk (qs.getD x ⟨0, []⟩)) := HQO.out x hlt
      have HRS := Lib.hid hRs
      have hqd : qs.getD x TD0 = qs.getD x ⟨0, []⟩ := rfl
      have hmd : ms.getD x MA0 = ms.getD x MAd := rfl
      rw [hqd] at k4 HRS
      rw [hmd] at k8
      obtain ⟨m, hm⟩ : ∃ m, ms.getD x MAd = m := ⟨_, rfl⟩
      obtain ⟨q, hq⟩ : ∃ q, qs.getD x ⟨0, []⟩ = q := ⟨_, rfl⟩
      rw [hm] at k8 HAL HSK
      rw [hq] at k4 HRS HAL HQX
      obtain ⟨E, hE⟩ : ∃ E, q.es = E := ⟨_, rfl⟩
      have HRI : Hid (RIn E) := by rw [← hE]; exact HQX.out.2
      rw [hE] at k4 HRS HAL
      obtain ⟨ne, hne⟩ : ∃ ne, E.length = ne := ⟨_, rfl⟩
      have HNE := Lib.hid hne
      have hne6 : ne ≤ 6 := by rw [← hne]; exact HRI.out.l
      rw [hne] at k4 HRS HAL
      subst hAs
      clear hI hB hCB hCB0 hcS0 hgS0 hRs hes hm hq hE hne hqd hmd HQX
      cases hok : m.ok with
      | false =>
        rw [hok] at k8 HSK
        have hs := HSK.out rfl
        have HS := Lib.hid hs
        clear hok hs HSK HAL
        go_wp2
        exact ⟨⟨x + 1, by omega, by go_num, by rw [HS.out]; exact HI.out, HB.out⟩, by simp [intOf]; omega⟩
      | true =>
        rw [hok] at k8 HAL
        have HAL2 : Hid (cnI ms qs x E ne = cnL ms qs (x + 1)) := HAL.out rfl
        clear hok HSK HAL
        obtain ⟨wz, hwz⟩ : ∃ wz, wz = wr := ⟨wr, rfl⟩
        rw [← hwz] at HI HB k4 k8 hgS hcS hgl ⊢
        clear hwz
        go_wp2
        go_loopw [57, 15, 58, 59, 60, 61, 62, 63, 64, 65, 66, 67, 68] (fun i _ _ _ _ _ _ _ _ _ _ _ _ wr => ∃ y : Nat, y ≤ ne ∧ i = .int .i64 y ∧ IB .u64 23 wr gC (cnI ms qs x E y) ∧ Below w2.heap.size w2 wr) (fun i _ _ _ _ _ _ _ _ _ _ _ _ _ => ne - (intOf i).toNat)
        case atStart => exact ⟨0, by omega, rfl, by rw [cnI_zero]; exact HI.out, HB.out⟩
        case round =>
          obtain ⟨y, hy, rfl, hI, hB⟩ := hrel
          have HI := Lib.hid hI
          have HB2 := Lib.hid hB
          by_cases hlt2 : y < ne
          · have hlt2' : (y : Int) < (ne : Int) := by omega
            have hye : y < E.length := by rw [HNE.out]; exact hlt2
            obtain ⟨ge, oe, hAe, hgel, t0, t1, t2⟩ := (HRS.out.bl hB).2.2 y hlt2
            have hwd := (HRI.out.w _ (getD_mem E RE0 hye)).1
            have HSU := Lib.hid (cnI_succ ms qs x E hye hwd)
            have hle := cnI_le ms qs x E y hwd (fun i hi => HQO.out i (by omega))
            have hlen := length_cnI ms qs x E y
            obtain ⟨e, he⟩ : ∃ e, E.getD y RE0 = e := ⟨_, rfl⟩
            rw [he] at t0 t1 t2 hwd HSU hle
            obtain ⟨ew, eo, en⟩ := e
            dsimp only at t0 t1 t2 hwd HSU hle
            have hwd' : (ew : Int) < 8 := by omega
            have hcc := hI.cell (i := ew) (by rw [hlen]; exact hwd)
            rw [← gt0_eq (by rw [hlen]; exact hwd)] at hcc
            have hfz := hI.frozen ew
            have hgCl := hI.lt
            obtain ⟨v, hv⟩ : ∃ v, gt0 (cnI ms qs x E y) ew = v := ⟨_, rfl⟩
            rw [hv] at hcc HSU hle
            have hvr : 0 ≤ v ∧ v + 1 < 18446744073709551616 := by rw [HNE.out] at hle; omega
            have hwrap : IntKind.u64.wrap (v + 1) = v + 1 := IntWalk.u64_in _ (by omega)
            subst hAe
            clear hI hB he hv hle hlen
            go_wp2
            refine ⟨⟨y + 1, by omega, by go_num, ?_, bl_alloc (bl_set HB2.out (p := ⟨gC, ew, none⟩) HG.out _) _⟩, by simp [intOf]; omega⟩
            rw [HSU.out]
            exact (HI.out.set ew (v + 1)).alloc _
          · obtain rfl : y = ne := by omega
            rw [HAL2.out] at hI
            have HF := Lib.hid hI
            clear hI hB
            go_wp2
            exact ⟨⟨x + 1, by omega, by go_num, HF.out, HB2.out⟩, by simp [intOf]; omega⟩
    · obtain rfl : x = M := by omega
      obtain ⟨K, σ, N, xs, hPM, hON, hXS, hBU⟩ := HE.out.pl
      have HTH : Hid (∀ W, Below w2.heap.size w2 W → Calls Tryz.prog 24 #[.pointer (some ⟨d, 0, none⟩), .int .i64 0] W fun e w' => e = .returned (.pointer (some ⟨t 0, 0, none⟩)) ∧ W = w') := fun W hW => by
        obtain ⟨role, bb, h, hK⟩ := hPM.bl0 hW
        exact vThread h.dv 0 (by omega)
      have HLD : Hid (∀ W, Below w2.heap.size w2 W → ∀ j, j < 8 → Calls Tryz.prog 25 #[.pointer (some ⟨t 0, 0, none⟩), .int .u64 (8 * ((288 + j : Nat) : Int))] W fun e w' => e = .returned (.int .u64 (L (288 + j))) ∧ W = w') := fun W hW j hj => by
        obtain ⟨role, bb, h, hK⟩ := hPM.bl0 hW
        exact vLoad h.dv 0 (by omega) hON.off _ _ (by rw [hON.cur]; exact hXS _ (by unfold M17; omega))
      have hlen : (cnL ms qs x).length = 8 := by simp [cnL]
      have HLEN := Lib.hid hlen
      obtain ⟨wz, hwz⟩ : ∃ wz, wz = wr := ⟨wr, rfl⟩
      rw [← hwz] at HI HB ⊢
      clear hI hB hwz hPM hON hXS hBU hlen
      have hgl := HI.out.lt
      go_wp2
      go_loopw [72, 6, 16, 17, 73, 74, 75, 76, 77, 78, 79, 80, 81, 82, 83, 84, 85, 86] (fun i _ _ _ _ _ _ _ _ _ _ _ _ _ _ _ _ _ wr => ∃ j : Nat, j ≤ 8 ∧ i = .int .i64 j ∧ wr = wz) (fun i _ _ _ _ _ _ _ _ _ _ _ _ _ _ _ _ _ _ => 8 - (intOf i).toNat)
      case atStart => exact ⟨0, by omega, rfl, rfl⟩
      case round =>
        obtain ⟨j, hj, rfl, rfl⟩ := hrel
        by_cases hlt8 : j < 8
        · have hlt8' : (j : Int) < 8 := by omega
          have hc := HI.out.cell (i := j) (by rw [HLEN.out]; exact hlt8)
          rw [← gt0_eq (by rw [HLEN.out]; exact hlt8), ← HCT.out j hlt8] at hc
          have hr := HLR.out j hlt8
          have HLJ := Lib.hid (fun W hW => HLD.out W hW j hlt8)
          have HOF := Lib.hid (fun W => off17 W j hlt8)
          obtain ⟨of, hof⟩ : ∃ of, 8 * ((288 + j : Nat) : Int) = of := ⟨_, rfl⟩
          rw [hof] at HLJ HOF
          obtain ⟨v, hv⟩ : ∃ v, L (288 + j) = v := ⟨_, rfl⟩
          rw [hv] at HLJ hc hr
          have e1 := wb_dirty v hr
          clear hof hv
          go_wp2_with (first
            | (go_at_call 24; refine (HTH.out _ HB.out).mono ?_; rintro e w' ⟨rfl, rfl⟩)
            | (go_at_call 26; refine (HOF.out _).mono ?_; rintro e w' ⟨rfl, rfl⟩)
            | (go_at_call 25; refine (HLJ.out _ HB.out).mono ?_; rintro e w' ⟨rfl, rfl⟩))
          exact ⟨⟨j + 1, by omega, by go_num, trivial⟩, by simp [intOf]; omega⟩
        · obtain rfl : j = 8 := by omega
          go_wp2
          exact bodyPost_ret (v := .bool true) (by simp [results, Tryz.results4, go_sem]) rfl ⟨rfl, HBW.out.trans (HB.out.mono HBW.out.size)⟩
end Go.Proofs.YtjaohgnloddgfaaGreatDoor
