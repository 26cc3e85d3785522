/- Begin and Read whatever their arguments are (merged). -/
import Derived.Test.YtjaohgnloddgfaaGreatDoorKmi
import Derived.Test.YtjaohgnloddgfaaGreatDoorKmf
import Derived.Test.YtjaohgnloddgfaaGreatDoorRow
import Derived.Deep.SlicePairs
import Derived.Test.YtjaohgnloddgfaaGreatDoorRows
import Derived.Test.YtjaohgnloddgfaaGreatDoorTie
import Derived.Test.YtjaohgnloddgfaaGreatDoorKma
import Derived.Lib.LaidTab
import Derived.LaidMore
namespace Go.Proofs.YtjaohgnloddgfaaGreatDoor
open Go.RowKit
set_option linter.unusedVariables false
set_option linter.unusedSimpArgs false

section
variable {K : Nat → Prop} {p d a line lines : Nat} {t : Nat → Nat} {size : Int} {w w' : World} {σ : PwS} {n : Nat}
set_option maxRecDepth 100000 in
set_option maxHeartbeats 16000000 in
theorem pwBegin_ents (H : PMx K p d t line lines ((n : Int) * 64) w σ) (hn : n < 100000) (hl : line + lines < 100000) (th : Nat) (hth : th < 8) (g off m c : Nat) (es : List Ent) (hm : es.length = m) (h1 : 1 ≤ m) (h6 : m ≤ 6) (hS : EsV w (some ⟨g, off, none⟩) m c es)
    (hr : ∀ e ∈ es, 0 ≤ e.off ∧ e.off < 18446744073709551616 ∧ 0 ≤ e.old ∧ e.old < 18446744073709551616) (hg : entsB line lines n es m = false) :
    Calls Tryz.prog 17 #[.pointer (some ⟨p, 0, none⟩), .int .i64 (th : Int), .slice (some ⟨g, off, none⟩) m c] w fun r w' => r = .returned (.tuple #[.pointer none, .int .i64 1]) ∧ Below w.heap.size w w' := by
  have HP := Lib.hid H
  have HS := Lib.hid hS
  have HM := Lib.hid hm
  have HR := Lib.hid hr
  have HG := Lib.hid hg
  obtain ⟨role, bb, hPM, hK0⟩ := H
  obtain ⟨HLp, HLb⟩ := hPM.lt
  have hpb := hPM.pb
  have hpl := hPM.pl
  have hbz := hPM.bz
  have HPM := Lib.hid hPM
  have HK0 := Lib.hid hK0
  have p0 : w.cell? ⟨p, 0, none⟩ = some (.pointer (some ⟨d, 0, none⟩)) := hpl.cell 0
  have p1 : w.cell? ⟨p, 1, none⟩ = some (.int .i64 line) := hpl.cell 1
  have p2 : w.cell? ⟨p, 2, none⟩ = some (.int .i64 lines) := hpl.cell 2
  have p3 : w.cell? ⟨p, 3, none⟩ = some (.int .u64 ((n : Int) * 64)) := hpl.cell 3
  have HOUT := Lib.hid (fun (W : World) (o : Int) (ho : 0 ≤ o ∧ o < 18446744073709551616) => rgOutside W line lines n hl hn o ho)
  have hthI : ¬ (th : Int) < 0 := by omega
  have hth8 : ¬ (th : Int) ≥ 8 := by omega
  have hth8' : ¬ (8 : Int) ≤ (th : Int) := by omega
  have hm1 : ¬ (m : Int) < 1 := by omega
  have hm6 : ¬ (m : Int) > 6 := by omega
  have hm6' : ¬ (6 : Int) < (m : Int) := by omega
  have HBZ := Lib.hid hbz
  have HPL := Lib.hid hpl
  have HPI : Hid (∀ W, Below w.heap.size w W → PMx K p d t line lines ((n : Int) * 64) W σ) := fun W hW => HP.out.bl0 hW
  have HTB := Lib.hid hth
  clear hPM hK0 hS hm hr hg hpl hbz hth
  go_enter Tryz.func17, Tryz.ntmps17
  go_wp2
  go_loopw [38, 6, 7, 8, 9, 10, 39, 40, 41, 42, 43, 44, 45, 46, 47, 48, 49, 50, 51, 52, 53, 54, 55, 56, 57, 58, 59, 60, 61, 62, 63, 64] (fun i _ _ _ _ _ _ _ _ _ _ _ _ _ _ _ _ _ _ _ _ _ _ _ _ _ _ _ _ _ _ _ wr => ∃ j : Nat, j ≤ m ∧ i = .int .i64 j ∧ entsB line lines n es j = true ∧ Below w.heap.size w wr) (fun i _ _ _ _ _ _ _ _ _ _ _ _ _ _ _ _ _ _ _ _ _ _ _ _ _ _ _ _ _ _ _ _ => m - (intOf i).toNat)
  case atStart => exact ⟨0, by omega, rfl, rfl, Below.refl _ _⟩
  case round =>
    obtain ⟨j, hj, rfl, hgj, hB⟩ := hrel
    have HGJ := Lib.hid hgj
    clear hgj
    have HB := Lib.hid hB
    have HLpr : p < wr.heap.size := Nat.lt_of_lt_of_le HLp hB.size
    have y0 := (hB.cell (p := ⟨p, 0, none⟩) HLp).trans p0
    have y1 := (hB.cell (p := ⟨p, 1, none⟩) HLp).trans p1
    have y2 := (hB.cell (p := ⟨p, 2, none⟩) HLp).trans p2
    have y3 := (hB.cell (p := ⟨p, 3, none⟩) HLp).trans p3
    by_cases hlt : j < m
    · have hlt' : (j : Int) < (m : Int) := by omega
      have hjl : j < es.length := by rw [HM.out]; exact hlt
      have hSr := HS.out.bl hB
      have HSR := Lib.hid hSr
      obtain ⟨g2, off2, hA, hgl, t1, t2, t3, t4⟩ := hSr.ent (k := j) hjl
      injection hA with hA
      injection hA with e1 e2
      subst e1 e2
      have heg : es.getD j E0 = es[j]'hjl := by rw [List.getD_eq_getElem?_getD, List.getElem?_eq_getElem hjl]; rfl
      have hrr := HR.out _ (List.getElem_mem hjl)
      obtain ⟨e, he⟩ : ∃ e, es[j]'hjl = e := ⟨_, rfl⟩
      rw [he] at t1 t2 t3 t4 hrr heg
      obtain ⟨eo, eold, enew, eex⟩ := e
      have HSUCC : Hid (entsB line lines n es (j + 1) = (entsB line lines n es j && (outB line lines n eo && !(idxOff (es.take j) eo).isSome && (⟨eo, eold, enew, eex⟩ : Ent).poss))) := by
        show _ = _
        unfold entsB
        rw [List.range_succ, List.all_append]
        simp only [List.all_cons, List.all_nil, Bool.and_true, heg]
      dsimp only at t1 t2 t3 t4 hrr
      obtain ⟨q1, hq1⟩ : ∃ q1, outB line lines n eo = q1 := ⟨_, rfl⟩
      obtain ⟨q2, hq2⟩ : ∃ q2, (idxOff (es.take j) eo).isSome = q2 := ⟨_, rfl⟩
      obtain ⟨q3, hq3⟩ : ∃ q3, (⟨eo, eold, enew, eex⟩ : Ent).poss = q3 := ⟨_, rfl⟩
      rw [hq1, hq2, hq3, HGJ.out] at HSUCC
      have HO1 := Lib.hid (fun W => HOUT.out W eo ⟨hrr.1, hrr.2.1⟩)
      rw [hq1] at HO1
      have HPO := Lib.hid (fun W => entPossible W ⟨eo, eold, enew, eex⟩ hrr.2.2)
      rw [hq3] at HPO
      dsimp only [entV] at HPO
      have HCO : Hid (∀ W ge, Below wr.heap.size wr W → W.cell? ⟨ge, 0, none⟩ = some (.int .u64 eo) → Calls Tryz.prog 55 #[.slice (some ⟨g, off, none⟩) j c, .func (.func 53) #[] #[.pointer (some ⟨ge, 0, none⟩)]] W fun r w' => r = .returned (.bool q2) ∧ Below W.heap.size W w') := fun W ge hW hge => by
        have h := contE W (some ⟨g, off, none⟩) j c (es.take j) (by simp; omega) (by omega) ((HSR.out.bl hW).take j hj) ge hge
        rwa [hq2] at h
      have hjc : j ≤ c := by have := hSr.2.1; omega
      clear hB hSr heg he hq1 hq2 hq3 hrr
      go_upto_region 7 with (fail)
      have hjcI : (j : Int) ≤ (c : Int) := by omega
      have hj0 : ¬ (j : Int) < 0 := by omega
      obtain ⟨W0, hW0⟩ : ∃ W0, wr.alloc (.cells #[.int .u64 eo, .int .u64 eold, .int .u64 enew, .bool eex] 33) = W0 := ⟨_, rfl⟩
      have hB0 : Below wr.heap.size wr W0 := by rw [← hW0]; (repeat (first | with_reducible exact Below.refl _ _ | with_reducible refine bl_alloc ?_ _ | with_reducible refine bl_drew ?_ | with_reducible refine bl_drewN ?_ _ | with_reducible refine bl_bx ?_ _ | with_reducible exact BX.below _ | with_reducible refine bl_set ?_ (by first | (exact Nat.le_refl _) | (simp; done) | (simp; omega)) _ | assumption))
      have kk := CB.new wr 33 #[.int .u64 eo, .int .u64 eold, .int .u64 enew, .bool eex]
      rw [hW0] at kk
      have k0 : W0.cell? ⟨wr.heap.size, 0, none⟩ = some (.int .u64 eo) := kk.cell 0
      have k1 : W0.cell? ⟨wr.heap.size, 1, none⟩ = some (.int .u64 eold) := kk.cell 1
      have k2 : W0.cell? ⟨wr.heap.size, 2, none⟩ = some (.int .u64 enew) := kk.cell 2
      have k3 : W0.cell? ⟨wr.heap.size, 3, none⟩ = some (.bool eex) := kk.cell 3
      have hls : wr.heap.size < W0.heap.size := by rw [← hW0]; simp
      have HLp0 : p < W0.heap.size := by omega
      have z1 := (hB0.cell (p := ⟨p, 1, none⟩) HLpr).trans y1
      have z2 := (hB0.cell (p := ⟨p, 2, none⟩) HLpr).trans y2
      have z3 := (hB0.cell (p := ⟨p, 3, none⟩) HLpr).trans y3
      have HB0 := Lib.hid hB0
      rw [hW0]
      clear hW0 hB0 kk
      cases q1 with
      | false =>
        refine wp_region_bx (by kernel_rfl) (by kernel_rfl) ?_
        repeat (go_big_quiet_step (first | (go_at_call 54; exact bx_call (HO1.out _)) | (go_at_call 55; exact bx_call (HCO.out _ _ (HB0.out.trans ((BX.below _).mono HB0.out.size)) (by go_simp))) | (go_at_call 56; exact bx_call (HPO.out _))))
        refine wpQuiet_nil ?_
        rintro _ ⟨x, rfl⟩
        go_wp2
        exact bodyPost_ret (v := .tuple #[.pointer none, .int .i64 1]) (by simp [results, Tryz.results17, go_sem]) rfl ⟨rfl, HB.out.trans ((HB0.out.trans (x.below.mono HB0.out.size)).mono HB.out.size)⟩
      | true =>
        cases q2 with
        | true =>
          refine wp_region_bx (by kernel_rfl) (by kernel_rfl) ?_
          repeat (go_big_quiet_step (first | (go_at_call 54; exact bx_call (HO1.out _)) | (go_at_call 55; exact bx_call (HCO.out _ _ (HB0.out.trans ((BX.below _).mono HB0.out.size)) (by go_simp))) | (go_at_call 56; exact bx_call (HPO.out _))))
          refine wpQuiet_nil ?_
          rintro _ ⟨x, rfl⟩
          go_wp2
          exact bodyPost_ret (v := .tuple #[.pointer none, .int .i64 1]) (by simp [results, Tryz.results17, go_sem]) rfl ⟨rfl, HB.out.trans ((HB0.out.trans (x.below.mono HB0.out.size)).mono HB.out.size)⟩
        | false =>
          cases q3 with
          | false =>
            refine wp_region_bx (by kernel_rfl) (by kernel_rfl) ?_
            repeat (go_big_quiet_step (first | (go_at_call 54; exact bx_call (HO1.out _)) | (go_at_call 55; exact bx_call (HCO.out _ _ (HB0.out.trans ((BX.below _).mono HB0.out.size)) (by go_simp))) | (go_at_call 56; exact bx_call (HPO.out _))))
            refine wpQuiet_nil ?_
            rintro _ ⟨x, rfl⟩
            go_wp2
            exact bodyPost_ret (v := .tuple #[.pointer none, .int .i64 1]) (by simp [results, Tryz.results17, go_sem]) rfl ⟨rfl, HB.out.trans ((HB0.out.trans (x.below.mono HB0.out.size)).mono HB.out.size)⟩
          | true =>
            refine wp_region_bx (by kernel_rfl) (by kernel_rfl) ?_
            repeat (go_big_quiet_step (first | (go_at_call 54; exact bx_call (HO1.out _)) | (go_at_call 55; exact bx_call (HCO.out _ _ (HB0.out.trans ((BX.below _).mono HB0.out.size)) (by go_simp))) | (go_at_call 56; exact bx_call (HPO.out _))))
            refine wpQuiet_nil ?_
            rintro _ ⟨x, rfl⟩
            go_wp2
            exact ⟨⟨j + 1, by omega, by go_num, HSUCC.out, HB.out.trans ((HB0.out.trans (x.below.mono HB0.out.size)).mono HB.out.size)⟩, by simp [intOf]; omega⟩
    · obtain rfl : j = m := by omega
      have := HG.out
      rw [HGJ.out] at this
      cases this
set_option maxRecDepth 100000 in
set_option maxHeartbeats 2000000 in
theorem pwBegin_args (w : World) (p : Nat) (th : Int) (A : Option Addr) (m c : Nat) (hb : th < 0 ∨ 8 ≤ th ∨ m < 1 ∨ 6 < m) :
    Calls Tryz.prog 17 #[.pointer (some ⟨p, 0, none⟩), .int .i64 th, .slice A m c] w fun r w' => r = .returned (.tuple #[.pointer none, .int .i64 1]) ∧ Below w.heap.size w w' := by
  by_cases h1 : th < 0
  · go_enter Tryz.func17, Tryz.ntmps17
    go_wp2
    exact bodyPost_ret (v := .tuple #[.pointer none, .int .i64 1]) (by simp [results, Tryz.results17, go_sem]) rfl ⟨rfl, (by repeat (first | with_reducible exact Below.refl _ _ | with_reducible refine bl_alloc ?_ _ | with_reducible refine bl_drew ?_ | with_reducible refine bl_drewN ?_ _ | with_reducible refine bl_bx ?_ _ | with_reducible exact BX.below _ | with_reducible refine bl_set ?_ (by first | (exact Nat.le_refl _) | (simp; done) | (simp; omega)) _ | assumption))⟩
  · by_cases h2 : th ≥ 8
    · go_enter Tryz.func17, Tryz.ntmps17
      go_wp2
      exact bodyPost_ret (v := .tuple #[.pointer none, .int .i64 1]) (by simp [results, Tryz.results17, go_sem]) rfl ⟨rfl, (by repeat (first | with_reducible exact Below.refl _ _ | with_reducible refine bl_alloc ?_ _ | with_reducible refine bl_drew ?_ | with_reducible refine bl_drewN ?_ _ | with_reducible refine bl_bx ?_ _ | with_reducible exact BX.below _ | with_reducible refine bl_set ?_ (by first | (exact Nat.le_refl _) | (simp; done) | (simp; omega)) _ | assumption))⟩
    · by_cases h3 : (m : Int) < 1
      · go_enter Tryz.func17, Tryz.ntmps17
        go_wp2
        exact bodyPost_ret (v := .tuple #[.pointer none, .int .i64 1]) (by simp [results, Tryz.results17, go_sem]) rfl ⟨rfl, (by repeat (first | with_reducible exact Below.refl _ _ | with_reducible refine bl_alloc ?_ _ | with_reducible refine bl_drew ?_ | with_reducible refine bl_drewN ?_ _ | with_reducible refine bl_bx ?_ _ | with_reducible exact BX.below _ | with_reducible refine bl_set ?_ (by first | (exact Nat.le_refl _) | (simp; done) | (simp; omega)) _ | assumption))⟩
      · have h4 : (m : Int) > 6 := by omega
        clear hb
        go_enter Tryz.func17, Tryz.ntmps17
        go_wp2
        exact bodyPost_ret (v := .tuple #[.pointer none, .int .i64 1]) (by simp [results, Tryz.results17, go_sem]) rfl ⟨rfl, (by repeat (first | with_reducible exact Below.refl _ _ | with_reducible refine bl_alloc ?_ _ | with_reducible refine bl_drew ?_ | with_reducible refine bl_drewN ?_ _ | with_reducible refine bl_bx ?_ _ | with_reducible exact BX.below _ | with_reducible refine bl_set ?_ (by first | (exact Nat.le_refl _) | (simp; done) | (simp; omega)) _ | assumption))⟩
set_option maxRecDepth 100000 in
set_option maxHeartbeats 2000000 in
/-- What Read returns. -/
theorem pwRead (H : PMx K p d t line lines ((n : Int) * 64) w σ) (hn : n < 100000) (hl : line + lines < 100000) (th : Nat) (hth : th < 8) (off : Int) (ho : 0 ≤ off ∧ off < 18446744073709551616) (hg : outB line lines n off = true) :
    Calls Tryz.prog 18 #[.pointer (some ⟨p, 0, none⟩), .int .i64 (th : Int), .int .u64 off] w fun r w' => ∃ g, r = .returned (.pointer (some ⟨g, 0, none⟩)) ∧ CB w' g 130 (rdcells (.pointer (some ⟨p, 0, none⟩)) (.pointer (some ⟨t th, 0, none⟩)) ⟨th, off, 0, 0, false, 0⟩) ∧ w.heap.size ≤ g ∧ Below w.heap.size w w' := by
  have HP := Lib.hid H
  obtain ⟨role, bb, hPM, hK0⟩ := H
  have HLp := hPM.lt.1
  have hpl := hPM.pl
  have p0 : w.cell? ⟨p, 0, none⟩ = some (.pointer (some ⟨d, 0, none⟩)) := hpl.cell 0
  have p1 : w.cell? ⟨p, 1, none⟩ = some (.int .i64 line) := hpl.cell 1
  have p2 : w.cell? ⟨p, 2, none⟩ = some (.int .i64 lines) := hpl.cell 2
  have p3 : w.cell? ⟨p, 3, none⟩ = some (.int .u64 ((n : Int) * 64)) := hpl.cell 3
  have HOUT := Lib.hid (rgOutside w line lines n hl hn off ho)
  rw [hg] at HOUT
  have hthI : ¬ (th : Int) < 0 := by omega
  have hth8 : ¬ (th : Int) ≥ 8 := by omega
  have HTH : Hid (∀ W, Below w.heap.size w W → Calls Tryz.prog 24 #[.pointer (some ⟨d, 0, none⟩), .int .i64 (th : Int)] W fun e w' => e = .returned (.pointer (some ⟨t th, 0, none⟩)) ∧ W = w') := fun W hW => by
    obtain ⟨role, bb, h, hK⟩ := HP.out.bl0 hW
    exact vThread h.dv th hth
  clear hPM hK0 hpl hg hth
  go_enter Tryz.func18, Tryz.ntmps18
  go_wp2_with (first
    | (go_at_call 54; refine HOUT.out.mono ?_; rintro e w' ⟨rfl, hb⟩; obtain ⟨x, rfl⟩ := bx_of hb; clear hb)
    | (go_at_call 24; refine (HTH.out _ (by (repeat (first | with_reducible exact Below.refl _ _ | with_reducible refine bl_alloc ?_ _ | with_reducible refine bl_drew ?_ | with_reducible refine bl_drewN ?_ _ | with_reducible refine bl_bx ?_ _ | with_reducible exact BX.below _ | with_reducible refine bl_set ?_ (by first | (exact Nat.le_refl _) | (simp; done) | (simp; omega)) _ | assumption)))).mono ?_; rintro e w' ⟨rfl, rfl⟩))
  go_ret
  exact ⟨_, rfl, CB.new _ _ _, by have := x.size; omega, (by repeat (first | with_reducible exact Below.refl _ _ | with_reducible refine bl_alloc ?_ _ | with_reducible refine bl_drew ?_ | with_reducible refine bl_drewN ?_ _ | with_reducible refine bl_bx ?_ _ | with_reducible exact BX.below _ | with_reducible refine bl_set ?_ (by first | (exact Nat.le_refl _) | (simp; done) | (simp; omega)) _ | assumption))⟩
set_option maxRecDepth 100000 in
set_option maxHeartbeats 2000000 in
/-- Read refuses. -/
theorem pwRead_bad (H : PMx K p d t line lines ((n : Int) * 64) w σ) (hn : n < 100000) (hl : line + lines < 100000) (th : Int) (off : Int) (ho : 0 ≤ off ∧ off < 18446744073709551616) (hb : th < 0 ∨ 8 ≤ th ∨ outB line lines n off = false) :
    Calls Tryz.prog 18 #[.pointer (some ⟨p, 0, none⟩), .int .i64 th, .int .u64 off] w fun r w' => ∃ g, r = .returned (.pointer (some ⟨g, 0, none⟩)) ∧ CB w' g 130 (rdcells (.pointer none) (.pointer none) ⟨0, 0, 0, 0, true, 1⟩) ∧ w.heap.size ≤ g ∧ Below w.heap.size w w' := by
  obtain ⟨role, bb, hPM, hK0⟩ := H
  have HLp := hPM.lt.1
  have hpl := hPM.pl
  have p1 : w.cell? ⟨p, 1, none⟩ = some (.int .i64 line) := hpl.cell 1
  have p2 : w.cell? ⟨p, 2, none⟩ = some (.int .i64 lines) := hpl.cell 2
  have p3 : w.cell? ⟨p, 3, none⟩ = some (.int .u64 ((n : Int) * 64)) := hpl.cell 3
  have HOUT := Lib.hid (rgOutside w line lines n hl hn off ho)
  clear hPM hK0 hpl
  by_cases h1 : th < 0
  · clear hb HOUT
    go_enter Tryz.func18, Tryz.ntmps18
    go_wp2
    go_ret
    exact ⟨_, rfl, CB.new _ _ _, Nat.le_refl _, (by repeat (first | with_reducible exact Below.refl _ _ | with_reducible refine bl_alloc ?_ _ | with_reducible refine bl_drew ?_ | with_reducible refine bl_drewN ?_ _ | with_reducible refine bl_bx ?_ _ | with_reducible exact BX.below _ | with_reducible refine bl_set ?_ (by first | (exact Nat.le_refl _) | (simp; done) | (simp; omega)) _ | assumption))⟩
  · by_cases h2 : th ≥ 8
    · clear hb HOUT
      go_enter Tryz.func18, Tryz.ntmps18
      go_wp2
      go_ret
      exact ⟨_, rfl, CB.new _ _ _, Nat.le_refl _, (by repeat (first | with_reducible exact Below.refl _ _ | with_reducible refine bl_alloc ?_ _ | with_reducible refine bl_drew ?_ | with_reducible refine bl_drewN ?_ _ | with_reducible refine bl_bx ?_ _ | with_reducible exact BX.below _ | with_reducible refine bl_set ?_ (by first | (exact Nat.le_refl _) | (simp; done) | (simp; omega)) _ | assumption))⟩
    · have h3 : outB line lines n off = false := by
        rcases hb with h | h | h
        · exact absurd h h1
        · exact absurd h h2
        · exact h
      rw [h3] at HOUT
      clear hb h3
      go_enter Tryz.func18, Tryz.ntmps18
      go_wp2_with (go_at_call 54; refine HOUT.out.mono ?_; rintro e w' ⟨rfl, hb⟩; obtain ⟨x, rfl⟩ := bx_of hb; clear hb)
      go_ret
      exact ⟨_, rfl, CB.new _ _ _, x.size, (by repeat (first | with_reducible exact Below.refl _ _ | with_reducible refine bl_alloc ?_ _ | with_reducible refine bl_drew ?_ | with_reducible refine bl_drewN ?_ _ | with_reducible refine bl_bx ?_ _ | with_reducible exact BX.below _ | with_reducible refine bl_set ?_ (by first | (exact Nat.le_refl _) | (simp; done) | (simp; omega)) _ | assumption))⟩
end
end Go.Proofs.YtjaohgnloddgfaaGreatDoor

namespace Go.Proofs.YtjaohgnloddgfaaGreatDoor
open Go.RowKit
set_option linter.unusedVariables false

instance : Inhabited Ent := ⟨⟨0, 0, 0, false⟩⟩
/-- A slice of entries that came in. -/
def IsEnts (w : World) (A : Option Addr) (len cap : Nat) (es : List Ent) : Prop :=
  EsV w A len cap es ∧ cap ≤ 9223372036854775807 ∧ ∀ e ∈ es, (0 ≤ e.off ∧ e.off < 18446744073709551616) ∧ (0 ≤ e.old ∧ e.old < 18446744073709551616) ∧ (0 ≤ e.new ∧ e.new < 18446744073709551616)
theorem isEnts_of {P : Program} {H : Type} {enc : TypeId × Value → H} {W : World} {fuel : Nat} {A : Option Addr} {len cap : Nat} {x : DataW H × List MemPlace} {t e : TypeId} {f0 f1 f2 f3 : Field}
    (ht : P.underlying t = some (.slice e)) (he : P.underlying e = some (.struct #[f0, f1, f2, f3])) (ce : P.cellsOf e = 4) (o0 : f0.offset = 0) (o1 : f1.offset = 1) (o2 : f2.offset = 2) (o3 : f3.offset = 3)
    (c0 : P.cellsOf f0.type = 1) (c1 : P.cellsOf f1.type = 1) (c2 : P.cellsOf f2.type = 1) (c3 : P.cellsOf f3.type = 1) (u0 : P.underlying f0.type = some (.int .u64)) (u1 : P.underlying f1.type = some (.int .u64)) (u2 : P.underlying f2.type = some (.int .u64)) (u3 : P.underlying f3.type = some .bool)
    (h : DataW.trod enc P W 0 (fun _ => true) true fuel t [.slice A len cap] = some x) : ∃ es, IsEnts W A len cap es := by
  rcases Go.Deep.open_slice ht h with ⟨hcs, _⟩ | ⟨a, l, c, m, n, D, Pl, hcs, hb, hl, hm, hmm, _, hx⟩
  · simp only [List.cons.injEq, Value.slice.injEq, and_true] at hcs
    obtain ⟨rfl, rfl, rfl⟩ := hcs
    exact ⟨[], ⟨rfl, Nat.le_refl _, fun k h => by simp at h⟩, by omega, fun e he => by simp at he⟩
  · simp only [List.cons.injEq, Value.slice.injEq, and_true] at hcs
    obtain ⟨rfl, rfl, rfl⟩ := hcs
    simp only [if_true] at hmm
    have each : ∀ i, i < m → ∃ p : Ent, W.cell? (a.add (i * 4)) = some (.int .u64 p.off) ∧ W.cell? (a.add (i * 4 + 1)) = some (.int .u64 p.old) ∧ W.cell? (a.add (i * 4 + 2)) = some (.int .u64 p.new) ∧ W.cell? (a.add (i * 4 + 3)) = some (.bool p.ex) ∧
        (0 ≤ p.off ∧ p.off < 18446744073709551616) ∧ (0 ≤ p.old ∧ p.old < 18446744073709551616) ∧ (0 ≤ p.new ∧ p.new < 18446744073709551616) := by
      intro i hi
      obtain ⟨cs', h1, h2⟩ := hx i hi
      rw [ce] at h1
      obtain ⟨_, hlen, hcell⟩ := World.cells?_some h1
      obtain ⟨xs, k, hk, hxy, _, hxl, hf⟩ := DataW.trod_struct he h2
      match xs, hxl, cs', hlen with
      | [y0, y1, y2, y3], _, [v0, v1, v2, v3], _ =>
        have g0 := hf 0 f0 rfl
        have g1 := hf 1 f1 rfl
        have g2 := hf 2 f2 rfl
        have g3 := hf 3 f3 rfl
        simp [o0, o1, o2, o3, c0, c1, c2, c3] at g0 g1 g2 g3
        have e0 := hcell 0 (by omega)
        have e1 := hcell 1 (by omega)
        have e2 := hcell 2 (by omega)
        have e3 := hcell 3 (by omega)
        rw [Go.Deep.add_add] at e0 e1 e2 e3
        obtain ⟨z0, q0, _, r0⟩ := DataW.trod_int u0 g0
        obtain ⟨z1, q1, _, r1⟩ := DataW.trod_int u1 g1
        obtain ⟨z2, q2, _, r2⟩ := DataW.trod_int u2 g2
        obtain ⟨z3, q3, _⟩ := DataW.trod_bool u3 g3
        simp only [List.cons.injEq, and_true] at q0 q1 q2 q3
        subst q0 q1 q2 q3
        exact ⟨⟨z0, z1, z2, z3⟩, by simpa using e0, by simpa using e1, by simpa using e2, by simpa using e3, wf_u64 r0, wf_u64 r1, wf_u64 r2⟩
    obtain ⟨q, hq⟩ := Go.Deep.choose_lt each
    refine ⟨(List.range len).map q, ⟨by simp, hl, fun k hk => ?_⟩, by unfold maxLen at hm; omega, fun e he => ?_⟩
    · have hk' : k < len := by simpa using hk
      obtain ⟨e0, e1, e2, e3, r0, r1, r2⟩ := hq k (by omega)
      have h00 := (hq 0 (by omega)).1
      have hx0 : a.add (0 * 4) = a := by simp [Addr.add]
      rw [hx0] at h00
      have hlt := World.block_lt_of_cell? W a h00
      obtain ⟨b, off, sp⟩ := a
      have hsp : sp = none := by
        cases sp with
        | none => rfl
        | some s =>
          unfold World.cell? at h00
          split at h00 <;> simp at h00
      subst hsp
      have h3 : ∀ i, (⟨b, off, none⟩ : Addr).add i = ⟨b, off + i, none⟩ := by intro i; unfold Addr.add; split <;> simp_all
      rw [h3] at e0 e1 e2 e3
      simp only [List.getElem_map, List.getElem_range]
      refine ⟨b, off, rfl, hlt, e0, ?_, ?_, ?_⟩
      · rw [← Nat.add_assoc] at e1; exact e1
      · rw [← Nat.add_assoc] at e2; exact e2
      · rw [← Nat.add_assoc] at e3; exact e3
    · obtain ⟨k, hk, rfl⟩ := List.mem_map.1 he
      have hk' : k < len := by simpa using hk
      obtain ⟨_, _, _, _, r0, r1, r2⟩ := hq k (by omega)
      exact ⟨r0, r1, r2⟩
end Go.Proofs.YtjaohgnloddgfaaGreatDoor

namespace Go.Proofs.YtjaohgnloddgfaaGreatDoor
open Go.RowKit
set_option linter.unusedVariables false
set_option linter.unusedSimpArgs false

def badA (th : Int) (m : Nat) : Bool := decide (th < 0) || (decide (8 ≤ th) || (decide (m < 1) || decide (6 < m)))
def begB (th : Int) (m : Nat) (es : List Ent) (j : Nat) : Bool := badA th m || !entsB 0 32 40 es j
def wrongB (th off : Int) : Bool := decide (th < 0) || (decide (8 ≤ th) || !outB 0 32 40 off)
def BegAll (K : Nat → Prop) (p d : Nat) (t : Nat → Nat) (w : World) (σ : PwS) (es : List Ent) (b : Bool) (r : Ending) (w' : World) : Prop :=
  if b then r = .returned (.tuple #[.pointer none, .int .i64 1]) ∧ Below w.heap.size w w'
  else ∃ a o, r = .returned (.tuple #[.pointer (some ⟨a, 0, none⟩), .int .i64 0]) ∧ o.ended = false ∧ PMx K p d t 0 32 ((40 : Nat) * 64) w' { σ.setOp a o with busy := σ.busy.set 0 true } ∧ Ch (fun b => ¬ K b) w w'
section
variable {K : Nat → Prop} {p d : Nat} {t : Nat → Nat} {w w' : World} {σ : PwS}
theorem pwBeginAll (H : PMx K p d t 0 32 ((40 : Nat) * 64) w σ) (herr : ∀ i, (σ.dev.thr i).err = 0) (hk : idxB σ.busy = some 0) (hbl : σ.busy.length ≤ 100000) (th : Int) (A : Option Addr) (m c : Nat) (es : List Ent) (hS : EsV w A m c es)
    (hr : ∀ e ∈ es, 0 ≤ e.off ∧ e.off < 18446744073709551616 ∧ 0 ≤ e.old ∧ e.old < 18446744073709551616) :
    Calls Tryz.prog 17 #[.pointer (some ⟨p, 0, none⟩), .int .i64 th, .slice A m c] w (BegAll K p d t w σ es (begB th m es m)) := by
  have hm := hS.1
  by_cases hA : badA th m = true
  · have hb : begB th m es m = true := by unfold begB; rw [hA]; rfl
    rw [hb]
    refine (pwBegin_args w p th A m c ?_).mono (fun r w' h => by unfold BegAll; rw [if_pos rfl]; exact h)
    unfold badA at hA
    simp only [Bool.or_eq_true, decide_eq_true_eq] at hA
    omega
  · have hA' : badA th m = false := by simpa using hA
    have hx := hA'
    unfold badA at hx
    simp only [Bool.or_eq_false_iff, decide_eq_false_iff_not] at hx
    obtain ⟨x1, x2, x3, x4⟩ := hx
    obtain ⟨n, rfl⟩ : ∃ n : Nat, th = n := ⟨th.toNat, by omega⟩
    obtain ⟨g, off, hAg, _⟩ := hS.2.2 0 (by omega)
    subst hAg
    cases he : entsB 0 32 40 es m with
    | false =>
      have hb : begB (n : Int) m es m = true := by unfold begB; rw [he]; simp
      rw [hb]
      refine (pwBegin_ents H (by omega) (by omega) n (by omega) g off m c es hm (by omega) (by omega) hS hr he).mono (fun r w' h => by unfold BegAll; rw [if_pos rfl]; exact h)
    | true =>
      have hb : begB (n : Int) m es m = false := by unfold begB; rw [he, hA']; rfl
      rw [hb]
      refine (pwBegin H (by omega) (by omega) n (by omega) (herr n) g off m c 0 es hm (by omega) (by omega) hS hr he hk hbl).mono ?_
      rintro r w' ⟨a, order, h1, h2, h3, h4, h5⟩
      unfold BegAll
      rw [if_neg (by simp)]
      exact ⟨a, _, h1, rfl, h4, h5⟩
theorem devExec17 {L : Lay} {S : DevS} (w : World) (h : Dev w d L S) : Calls Tryz.prog 16 #[.pointer (some ⟨d, 0, none⟩)] w fun e w' => e = .returned (.int .u64 S.exec) ∧ w = w' := by
  have h0 := h.xcell
  have hl := h.lt
  clear h
  go_enter Tryz.func16, Tryz.ntmps16
  go_wp2
  go_ret
  exact ⟨rfl, rfl⟩
theorem PMx.exec (H : PMx K p d t 0 32 ((40 : Nat) * 64) w σ) : Calls Tryz.prog 16 #[.pointer (some ⟨d, 0, none⟩)] w fun e w' => e = .returned (.int .u64 σ.dev.exec) ∧ w = w' := by
  obtain ⟨role, bb, h, hK⟩ := H
  obtain ⟨_, L, _, h3, _⟩ := h.dv
  exact devExec17 w h3
theorem pwReadAll (H : PMx K p d t 0 32 ((40 : Nat) * 64) w σ) (th off : Int) (ho : 0 ≤ off ∧ off < 18446744073709551616) :
    Calls Tryz.prog 18 #[.pointer (some ⟨p, 0, none⟩), .int .i64 th, .int .u64 off] w fun r w' => ∃ g pv tv rd, r = .returned (.pointer (some ⟨g, 0, none⟩)) ∧ CB w' g 130 (rdcells pv tv rd) ∧ rd.raw = 0 ∧ rd.ended = wrongB th off ∧ rd.err = (if wrongB th off then 1 else 0) ∧ Below w.heap.size w w' := by
  by_cases h : th < 0 ∨ 8 ≤ th ∨ outB 0 32 40 off = false
  · have hw : wrongB th off = true := by
      unfold wrongB
      rcases h with h | h | h
      · simp [h]
      · simp [h]
      · simp [h]
    refine (pwRead_bad H (by omega) (by omega) th off ho h).mono ?_
    rintro r w' ⟨g, h1, h2, _, h4⟩
    exact ⟨g, _, _, _, h1, h2, rfl, by rw [hw], by rw [hw]; rfl, h4⟩
  · have h1 : ¬ th < 0 := fun x => h (.inl x)
    have h2 : ¬ 8 ≤ th := fun x => h (.inr (.inl x))
    have h3 : outB 0 32 40 off = true := by
      cases ho : outB 0 32 40 off with
      | true => rfl
      | false => exact absurd (.inr (.inr ho)) h
    have hw : wrongB th off = false := by unfold wrongB; simp [h1, h2, h3]
    obtain ⟨n, rfl⟩ : ∃ n : Nat, th = n := ⟨th.toNat, by omega⟩
    refine (pwRead H (by omega) (by omega) n (by omega) off ho h3).mono ?_
    rintro r w' ⟨g, g1, g2, _, g4⟩
    exact ⟨g, _, _, _, g1, g2, rfl, by rw [hw], by rw [hw]; rfl, g4⟩
end
end Go.Proofs.YtjaohgnloddgfaaGreatDoor

namespace Go.Proofs.YtjaohgnloddgfaaGreatDoor
open Go.RowKit
set_option linter.unusedVariables false

theorem gTab : Tryz.prog.globalNamed "bedrock/crc.nibbles" = some 0 := by kernel_rfl
theorem gTabT : (Tryz.prog.globals[0]?).map (·.type) = some 218 := by kernel_rfl
theorem tab_of_laid {W : World} (h : laidMetH Tryz.prog [("bedrock/crc.nibbles", Rows.laid_bedrock_crc_nibbles)] W) : Tab W := by
  rw [MakeChecks.laidMetH_plain _ _ _ (by kernel_rfl)] at h
  have h2 : laidMet Tryz.prog [("bedrock/crc.nibbles", Lib.tabData .u32 (nibT.map fun (n : Nat) => (n : Int)))] W := h
  have h3 := Lib.tabIs_of_head gTab gTabT Tryz.underlying218 Tryz.underlying192 (by kernel_rfl) (by kernel_rfl) h2
  have hc : ∀ j, j < 16 → W.cell? ⟨0, j, none⟩ = some (.int .u32 (nibT.getD j 0 : Nat)) := by
    intro j hj
    have := h3.cell gTab j (by simpa [nibT] using hj)
    rw [this]
    congr 2
    have hj' : j < nibT.length := hj
    simp [List.getD, hj']
  exact ⟨World.block_lt_of_cell? W _ (hc 0 (by decide)), hc⟩
end Go.Proofs.YtjaohgnloddgfaaGreatDoor
