/- The reference of mwcas on memory (merged). -/
import Derived.Test.YtjaohgnloddgfaaGreatDoorKmb
import Derived.Test.YtjaohgnloddgfaaGreatDoorKma
import Derived.Test.YtjaohgnloddgfaaGreatDoorKd
import Derived.Test.YtjaohgnloddgfaaGreatDoorKmc
import Derived.Test.YtjaohgnloddgfaaGreatDoorKmg
namespace Go.Proofs.YtjaohgnloddgfaaGreatDoor
open Go.RowKit
set_option linter.unusedVariables false
set_option linter.unusedSimpArgs false

/-- A view of entries of the reference. -/
def RsV (w : World) (A : Option Addr) (m c : Nat) (es : List REnt) : Prop :=
  es.length = m ∧ m ≤ c ∧ ∀ (k : Nat), k < m → ∃ g off, A = some ⟨g, off, none⟩ ∧ g < w.heap.size ∧ w.cell? ⟨g, off + k * 3, none⟩ = some (.int .i64 (es.getD k RE0).word) ∧ w.cell? ⟨g, off + k * 3 + 1, none⟩ = some (.int .u64 (es.getD k RE0).old) ∧ w.cell? ⟨g, off + k * 3 + 2, none⟩ = some (.int .u64 (es.getD k RE0).new)
theorem RsV.bl {w w' : World} {A : Option Addr} {m c : Nat} {es : List REnt} (h : RsV w A m c es) (hB : Below w.heap.size w w') : RsV w' A m c es := by
  refine ⟨h.1, h.2.1, fun k hk => ?_⟩
  obtain ⟨g, off, hA, hl, t1, t2, t3⟩ := h.2.2 k hk
  have hc : ∀ o, w'.cell? ⟨g, o, none⟩ = w.cell? ⟨g, o, none⟩ := fun o => hB.cell (p := ⟨g, o, none⟩) hl
  exact ⟨g, off, hA, Nat.lt_of_lt_of_le hl hB.size, by rw [hc]; exact t1, by rw [hc]; exact t2, by rw [hc]; exact t3⟩
theorem getD_mem {α : Type} (l : List α) (d : α) {k : Nat} (h : k < l.length) : l.getD k d ∈ l := by
  rw [List.getD_eq_getElem?_getD, List.getElem?_eq_getElem h]; exact List.getElem_mem h
theorem all_takeS {α : Type} (l : List α) (d : α) (f : α → Bool) {k : Nat} (h : k < l.length) : (l.take (k + 1)).all f = ((l.take k).all f && f (l.getD k d)) := by
  rw [List.take_succ_eq_append_getElem h, List.all_append, List.getD_eq_getElem?_getD, List.getElem?_eq_getElem h]; simp
theorem all_false_of_take {α : Type} (l : List α) (d : α) (f : α → Bool) {k : Nat} (h : k < l.length) (hf : f (l.getD k d) = false) : l.all f = false := by
  rw [Bool.eq_false_iff]
  intro ha
  rw [List.all_eq_true] at ha
  rw [ha _ (getD_mem l d h)] at hf; cases hf
set_option maxRecDepth 100000 in
set_option maxHeartbeats 2000000 in
theorem refSat (w : World) (A : Option Addr) (c8 : Nat) (vs : List Int) (hl : vs.length = 8) (hR : Rd .u64 w A vs) (B : Option Addr) (m c : Nat) (es : List REnt) (hm : m ≤ 1000) (hS : RsV w B m c es) (hw : ∀ e ∈ es, e.word < 8) :
    Calls Tryz.prog 36 #[.slice A 8 c8, .slice B m c] w fun r w' => r = .returned (.bool (rSat vs es)) ∧ Below w.heap.size w w' := by
  have HR := Lib.hid hR
  have HL := Lib.hid hl
  have HS := Lib.hid hS
  have HW := Lib.hid hw
  have HM : Hid (es.length = m) := hS.1
  clear hR hl hS hw
  go_enter Tryz.func36, Tryz.ntmps36
  go_wp2
  go_loopw [9, 4, 6, 10, 11, 12, 13, 14, 15, 16, 17, 18, 19, 20, 21] (fun i _ _ _ _ _ _ _ _ _ _ _ _ _ _ wr => ∃ j : Nat, j ≤ m ∧ i = .int .i64 j ∧ (es.take j).all (fun e => gt0 vs e.word == e.old) = true ∧ Below w.heap.size w wr) (fun i _ _ _ _ _ _ _ _ _ _ _ _ _ _ _ => m - (intOf i).toNat)
  case atStart => exact ⟨0, by omega, rfl, by simp, Below.refl _ _⟩
  case round =>
    obtain ⟨j, hj, rfl, hall, hB⟩ := hrel
    have HALL := Lib.hid hall
    have HB := Lib.hid hB
    by_cases hlt : j < m
    · have hlt' : (j : Int) < (m : Int) := by omega
      have hje : j < es.length := by rw [HM.out]; exact hlt
      obtain ⟨g2, off2, hA, hgl, t1, t2, t3⟩ := (HS.out.bl hB).2.2 j hlt
      have hwd := HW.out _ (getD_mem es RE0 hje)
      have hts := all_takeS es RE0 (fun e => gt0 vs e.word == e.old) hje
      have hnf := all_false_of_take es RE0 (fun e => gt0 vs e.word == e.old) hje
      rw [HALL.out, Bool.true_and] at hts
      obtain ⟨e, he⟩ : ∃ e, es.getD j RE0 = e := ⟨_, rfl⟩
      rw [he] at t1 t2 t3 hwd hts hnf
      obtain ⟨ew, eo, en⟩ := e
      dsimp only at t1 t2 t3 hwd hts hnf
      have hwd' : (ew : Int) < 8 := by omega
      obtain ⟨g, off, hAA, hgl2, hcv⟩ := (HR.out.below hB).at_ (i := ew) (by rw [HL.out]; exact hwd)
      have hx : vs[ew]'(by rw [HL.out]; exact hwd) = gt0 vs ew := (gt0_eq _).symm
      rw [hx] at hcv
      obtain ⟨v, hv⟩ : ∃ v, gt0 vs ew = v := ⟨_, rfl⟩
      rw [hv] at hcv hts hnf
      subst hA hAA
      have HTS := Lib.hid hts
      have HNF := Lib.hid hnf
      clear hall hB he hx hv hts hnf
      by_cases hq : v = eo
      · have hq' : (v == eo) = true := by simpa using hq
        have HQ := Lib.hid hq'
        subst hq
        clear hq'
        go_wp2
        go_quiet (fail)
        go_wp2
        exact ⟨⟨j + 1, by omega, by go_num, by rw [HTS.out]; exact HQ.out, HB.out.trans ((by (repeat (first | with_reducible exact Below.refl _ _ | with_reducible refine bl_alloc ?_ _ | with_reducible refine bl_drew ?_ | with_reducible refine bl_drewN ?_ _ | with_reducible refine bl_bx ?_ _ | with_reducible exact BX.below _ | with_reducible refine bl_set ?_ (by first | (exact Nat.le_refl _) | (simp; done) | (simp; omega)) _ | assumption)) : Below wr.heap.size wr _).mono HB.out.size)⟩, by simp [intOf]; omega⟩
      · have hq' : (v == eo) = false := by simpa using hq
        have HQ := Lib.hid hq'
        have hd : decide (v = eo) = false := decide_eq_false hq
        clear hq'
        go_wp2
        go_quiet (fail)
        go_wp2
        have hf : rSat vs es = false := HNF.out HQ.out
        exact bodyPost_ret (v := .bool false) (by simp [results, Tryz.results36, go_sem]) rfl ⟨by rw [hf], HB.out.trans ((by (repeat (first | with_reducible exact Below.refl _ _ | with_reducible refine bl_alloc ?_ _ | with_reducible refine bl_drew ?_ | with_reducible refine bl_drewN ?_ _ | with_reducible refine bl_bx ?_ _ | with_reducible exact BX.below _ | with_reducible refine bl_set ?_ (by first | (exact Nat.le_refl _) | (simp; done) | (simp; omega)) _ | assumption)) : Below wr.heap.size wr _).mono HB.out.size)⟩
    · obtain rfl : j = m := by omega
      have hf : rSat vs es = true := by have := HALL.out; rwa [List.take_of_length_le (by rw [HM.out]; exact Nat.le_refl _)] at this
      have HF := Lib.hid hf
      clear hall hB hf
      go_wp2
      exact bodyPost_ret (v := .bool true) (by simp [results, Tryz.results36, go_sem]) rfl ⟨by rw [HF.out], HB.out⟩
end Go.Proofs.YtjaohgnloddgfaaGreatDoor

namespace Go.Proofs.YtjaohgnloddgfaaGreatDoor
open Go.RowKit
set_option linter.unusedVariables false
set_option linter.unusedSimpArgs false

/-- A call as a value. -/
def rcV (c : RCall) (B : Option Addr) (m cp : Nat) : Value := .agg #[.bool c.read, .int .i64 c.word, .slice B m cp, .int .i64 c.bg, .int .i64 c.en, .bool c.ended, .bool c.ok, .int .u64 c.val]
/-- A view of calls. -/
def ClV (w : World) (A : Option Addr) (m c : Nat) (l : List RCall) : Prop :=
  l.length = m ∧ m ≤ c ∧ ∀ k, k < m → ∃ g off B n cp, A = some ⟨g, off, none⟩ ∧ g < w.heap.size ∧ n ≤ 1000 ∧ RsV w B n cp (l.getD k RC0).es ∧
    w.cell? ⟨g, off + k * 8, none⟩ = some (.bool (l.getD k RC0).read) ∧ w.cell? ⟨g, off + k * 8 + 1, none⟩ = some (.int .i64 (l.getD k RC0).word) ∧ w.cell? ⟨g, off + k * 8 + 2, none⟩ = some (.slice B n cp) ∧ w.cell? ⟨g, off + k * 8 + 3, none⟩ = some (.int .i64 (l.getD k RC0).bg) ∧
    w.cell? ⟨g, off + k * 8 + 4, none⟩ = some (.int .i64 (l.getD k RC0).en) ∧ w.cell? ⟨g, off + k * 8 + 5, none⟩ = some (.bool (l.getD k RC0).ended) ∧ w.cell? ⟨g, off + k * 8 + 6, none⟩ = some (.bool (l.getD k RC0).ok) ∧ w.cell? ⟨g, off + k * 8 + 7, none⟩ = some (.int .u64 (l.getD k RC0).val)
theorem ClV.bl {w w' : World} {A : Option Addr} {m c : Nat} {l : List RCall} (h : ClV w A m c l) (hB : Below w.heap.size w w') : ClV w' A m c l := by
  refine ⟨h.1, h.2.1, fun k hk => ?_⟩
  obtain ⟨g, off, B, n, cp, hA, hl, hn, hR, t0, t1, t2, t3, t4, t5, t6, t7⟩ := h.2.2 k hk
  have hc : ∀ o, w'.cell? ⟨g, o, none⟩ = w.cell? ⟨g, o, none⟩ := fun o => hB.cell (p := ⟨g, o, none⟩) hl
  exact ⟨g, off, B, n, cp, hA, Nat.lt_of_lt_of_le hl hB.size, hn, hR.bl hB, by rw [hc]; exact t0, by rw [hc]; exact t1, by rw [hc]; exact t2, by rw [hc]; exact t3, by rw [hc]; exact t4, by rw [hc]; exact t5, by rw [hc]; exact t6, by rw [hc]; exact t7⟩
/-- A view of bools. -/
def BlV (w : World) (A : Option Addr) (m : Nat) (bs : List Bool) : Prop := bs.length = m ∧ ∀ k, k < m → ∃ g off, A = some ⟨g, off, none⟩ ∧ g < w.heap.size ∧ w.cell? ⟨g, off + k, none⟩ = some (.bool (bs.getD k true))
theorem BlV.bl {w w' : World} {A : Option Addr} {m : Nat} {l : List Bool} (h : BlV w A m l) (hB : Below w.heap.size w w') : BlV w' A m l := by
  refine ⟨h.1, fun k hk => ?_⟩
  obtain ⟨g, off, hA, hl, t0⟩ := h.2 k hk
  exact ⟨g, off, hA, Nat.lt_of_lt_of_le hl hB.size, (hB.cell (p := ⟨g, off + k, none⟩) hl).trans t0⟩
theorem list8_ext {vs ws : List Int} (h1 : vs.length = 8) (h2 : ws.length = 8) (h : ∀ q, q < 8 → gt0 vs q = gt0 ws q) : vs = ws := by
  apply List.ext_getElem
  · rw [h1, h2]
  · intro i l1 l2
    rw [← gt0_eq l1, ← gt0_eq l2]; exact h i (by omega)
set_option maxRecDepth 100000 in
set_option maxHeartbeats 2000000 in
theorem refSame (w : World) (A B : Option Addr) (c1 c2 : Nat) (vs ws : List Int) (h1 : vs.length = 8) (h2 : ws.length = 8) (hR : Rd .u64 w A vs) (hS : Rd .u64 w B ws) :
    Calls Tryz.prog 93 #[.slice A 8 c1, .slice B 8 c2] w fun r w' => r = .returned (.bool (vs == ws)) ∧ Below w.heap.size w w' := by
  have HR := Lib.hid hR
  have HS := Lib.hid hS
  have H1 := Lib.hid h1
  have H2 := Lib.hid h2
  clear hR hS h1 h2
  go_enter Tryz.func93, Tryz.ntmps93
  go_wp2
  go_loopw [8, 4, 5, 9, 10, 11, 12, 13, 14, 15, 16, 17, 18, 19, 20] (fun i _ _ _ _ _ _ _ _ _ _ _ _ _ _ wr => ∃ j : Nat, j ≤ 8 ∧ i = .int .i64 j ∧ (∀ q, q < j → gt0 vs q = gt0 ws q) ∧ Below w.heap.size w wr) (fun i _ _ _ _ _ _ _ _ _ _ _ _ _ _ _ => 8 - (intOf i).toNat)
  case atStart => exact ⟨0, by omega, rfl, fun q hq => by omega, Below.refl _ _⟩
  case round =>
    obtain ⟨j, hj, rfl, hall, hB⟩ := hrel
    have HALL := Lib.hid hall
    have HB := Lib.hid hB
    by_cases hlt : j < 8
    · have hlt' : (j : Int) < 8 := by omega
      obtain ⟨g1, o1, hA1, hl1, hc1⟩ := (HR.out.below hB).at_ (i := j) (by rw [H1.out]; exact hlt)
      obtain ⟨g2, o2, hA2, hl2, hc2⟩ := (HS.out.below hB).at_ (i := j) (by rw [H2.out]; exact hlt)
      have hx : vs[j]'(by rw [H1.out]; exact hlt) = gt0 vs j := (gt0_eq _).symm
      have hy : ws[j]'(by rw [H2.out]; exact hlt) = gt0 ws j := (gt0_eq _).symm
      rw [hx] at hc1
      rw [hy] at hc2
      obtain ⟨u, hu⟩ : ∃ u, gt0 vs j = u := ⟨_, rfl⟩
      obtain ⟨v, hv⟩ : ∃ v, gt0 ws j = v := ⟨_, rfl⟩
      rw [hu] at hc1
      rw [hv] at hc2
      have HU := Lib.hid hu
      have HV := Lib.hid hv
      subst hA1 hA2
      clear hall hB hu hv hx hy
      by_cases hq : u = v
      · have HQ := Lib.hid (show gt0 vs j = gt0 ws j by rw [HU.out, HV.out, hq])
        subst hq
        go_wp2
        go_quiet (fail)
        go_wp2
        refine ⟨⟨j + 1, by omega, by go_num, fun q hq => ?_, HB.out.trans ((by (repeat (first | with_reducible exact Below.refl _ _ | with_reducible refine bl_alloc ?_ _ | with_reducible refine bl_drew ?_ | with_reducible refine bl_drewN ?_ _ | with_reducible refine bl_bx ?_ _ | with_reducible exact BX.below _ | with_reducible refine bl_set ?_ (by first | (exact Nat.le_refl _) | (simp; done) | (simp; omega)) _ | assumption)) : Below wr.heap.size wr _).mono HB.out.size)⟩, by simp [intOf]; omega⟩
        by_cases hqj : q = j
        · rw [hqj]; exact HQ.out
        · exact HALL.out q (by omega)
      · have HQ : Hid ((vs == ws) = false) := by
          show _ = _
          rw [beq_eq_false_iff_ne]
          intro he
          exact hq (by rw [← HU.out, ← HV.out, he])
        have hd : decide (u = v) = false := decide_eq_false hq
        go_wp2
        go_quiet (fail)
        go_wp2
        exact bodyPost_ret (v := .bool false) (by simp [results, Tryz.results93, go_sem]) rfl ⟨by rw [HQ.out], HB.out.trans ((by (repeat (first | with_reducible exact Below.refl _ _ | with_reducible refine bl_alloc ?_ _ | with_reducible refine bl_drew ?_ | with_reducible refine bl_drewN ?_ _ | with_reducible refine bl_bx ?_ _ | with_reducible exact BX.below _ | with_reducible refine bl_set ?_ (by first | (exact Nat.le_refl _) | (simp; done) | (simp; omega)) _ | assumption)) : Below wr.heap.size wr _).mono HB.out.size)⟩
    · obtain rfl : j = 8 := by omega
      have HQ : Hid ((vs == ws) = true) := by
        show _ = _
        rw [beq_iff_eq]
        exact list8_ext H1.out H2.out HALL.out
      clear hall hB
      go_wp2
      exact bodyPost_ret (v := .bool true) (by simp [results, Tryz.results93, go_sem]) rfl ⟨by rw [HQ.out], HB.out⟩
set_option maxRecDepth 100000 in
set_option maxHeartbeats 1000000 in
theorem refBef (w : World) (a b : RCall) (A B : Option Addr) (m1 c1 m2 c2 : Nat) :
    Calls Tryz.prog 121 #[rcV a A m1 c1, rcV b B m2 c2] w fun r w' => r = .returned (.bool (rBefore a b)) ∧ Below w.heap.size w w' := by
  obtain ⟨r1, w1, e1, bg1, en1, ed1, ok1, v1⟩ := a
  obtain ⟨r2, w2, e2, bg2, en2, ed2, ok2, v2⟩ := b
  unfold rcV rBefore
  dsimp only
  cases ed1 with
  | false =>
    go_enter Tryz.func121, Tryz.ntmps121
    go_wp2
    exact bodyPost_ret (v := .bool false) (by simp [results, Tryz.results121, go_sem]) rfl ⟨rfl, by (repeat (first | with_reducible exact Below.refl _ _ | with_reducible refine bl_alloc ?_ _ | with_reducible refine bl_drew ?_ | with_reducible refine bl_drewN ?_ _ | with_reducible refine bl_bx ?_ _ | with_reducible exact BX.below _ | with_reducible refine bl_set ?_ (by first | (exact Nat.le_refl _) | (simp; done) | (simp; omega)) _ | assumption))⟩
  | true =>
    go_enter Tryz.func121, Tryz.ntmps121
    go_wp2
    exact bodyPost_ret (v := .bool (decide (en1 < bg2))) (by simp [results, Tryz.results121, go_sem]) rfl ⟨by simp, by (repeat (first | with_reducible exact Below.refl _ _ | with_reducible refine bl_alloc ?_ _ | with_reducible refine bl_drew ?_ | with_reducible refine bl_drewN ?_ _ | with_reducible refine bl_bx ?_ _ | with_reducible exact BX.below _ | with_reducible refine bl_set ?_ (by first | (exact Nat.le_refl _) | (simp; done) | (simp; omega)) _ | assumption))⟩
set_option maxRecDepth 100000 in
set_option maxHeartbeats 2000000 in
theorem refFits (w : World) (A : Option Addr) (c8 : Nat) (vs : List Int) (hl : vs.length = 8) (hR : Rd .u64 w A vs) (c : RCall) (B : Option Addr) (m cp : Nat) (hm : m ≤ 1000) (hS : RsV w B m cp c.es) (hw : c.word < 8) (hwe : ∀ e ∈ c.es, e.word < 8) :
    Calls Tryz.prog 95 #[.slice A 8 c8, rcV c B m cp] w fun r w' => r = .returned (.bool (rFits vs c)) ∧ Below w.heap.size w w' := by
  have HSA : Hid (∀ W, Below w.heap.size w W → Calls Tryz.prog 36 #[.slice A 8 c8, .slice B m cp] W fun r w' => r = .returned (.bool (rSat vs c.es)) ∧ Below W.heap.size W w') := fun W hW => refSat W A c8 vs hl (hR.below hW) B m cp c.es hm (hS.bl hW) hwe
  have hw' : (c.word : Int) < 8 := by omega
  obtain ⟨g1, o1, hA1, hl1, hc1⟩ := hR.at_ (i := c.word) (by rw [hl]; exact hw)
  have hx : vs[c.word]'(by rw [hl]; exact hw) = gt0 vs c.word := (gt0_eq _).symm
  rw [hx] at hc1
  obtain ⟨r1, w1, e1, bg1, en1, ed1, ok1, v1⟩ := c
  unfold rcV rFits
  dsimp only at hw' hc1 hw HSA ⊢
  obtain ⟨u, hu⟩ : ∃ u, gt0 vs w1 = u := ⟨_, rfl⟩
  rw [hu] at hc1 ⊢
  obtain ⟨sv, hsv⟩ : ∃ sv, rSat vs e1 = sv := ⟨_, rfl⟩
  rw [hsv] at HSA ⊢
  subst hA1
  clear hR hS hwe hl hx hu hsv
  cases ed1 with
  | false =>
    go_enter Tryz.func95, Tryz.ntmps95
    go_wp2
    exact bodyPost_ret (v := .bool (!r1)) (by simp [results, Tryz.results95, go_sem]) rfl ⟨by simp, by (repeat (first | with_reducible exact Below.refl _ _ | with_reducible refine bl_alloc ?_ _ | with_reducible refine bl_drew ?_ | with_reducible refine bl_drewN ?_ _ | with_reducible refine bl_bx ?_ _ | with_reducible exact BX.below _ | with_reducible refine bl_set ?_ (by first | (exact Nat.le_refl _) | (simp; done) | (simp; omega)) _ | assumption))⟩
  | true =>
    cases r1 with
    | true =>
      go_enter Tryz.func95, Tryz.ntmps95
      go_wp2
      go_quiet (fail)
      go_wp2
      go_ret
      exact ⟨by simp [BEq.beq], by (repeat (first | with_reducible exact Below.refl _ _ | with_reducible refine bl_alloc ?_ _ | with_reducible refine bl_drew ?_ | with_reducible refine bl_drewN ?_ _ | with_reducible refine bl_bx ?_ _ | with_reducible exact BX.below _ | with_reducible refine bl_set ?_ (by first | (exact Nat.le_refl _) | (simp; done) | (simp; omega)) _ | assumption))⟩
    | false =>
      go_enter Tryz.func95, Tryz.ntmps95
      go_wp2
      refine wp_region_bx (by kernel_rfl) (by kernel_rfl) ?_
      repeat (go_big_quiet_step ((go_at_call 36; exact bx_call (HSA.out _ (by (repeat (first | with_reducible exact Below.refl _ _ | with_reducible refine bl_alloc ?_ _ | with_reducible refine bl_drew ?_ | with_reducible refine bl_drewN ?_ _ | with_reducible refine bl_bx ?_ _ | with_reducible exact BX.below _ | with_reducible refine bl_set ?_ (by first | (exact Nat.le_refl _) | (simp; done) | (simp; omega)) _ | assumption)))))))
      refine wpQuiet_nil ?_
      rintro _ ⟨z, rfl⟩
      go_wp2
      go_ret
      exact ⟨by simp [BEq.beq], by (repeat (first | with_reducible exact Below.refl _ _ | with_reducible refine bl_alloc ?_ _ | with_reducible refine bl_drew ?_ | with_reducible refine bl_drewN ?_ _ | with_reducible refine bl_bx ?_ _ | with_reducible exact BX.below _ | with_reducible refine bl_set ?_ (by first | (exact Nat.le_refl _) | (simp; done) | (simp; omega)) _ | assumption))⟩
end Go.Proofs.YtjaohgnloddgfaaGreatDoor

namespace Go.Proofs.YtjaohgnloddgfaaGreatDoor
open Go.RowKit
set_option linter.unusedVariables false
set_option linter.unusedSimpArgs false

def ClP (w : World) (g off m : Nat) (l : List RCall) : Prop :=
  g < w.heap.size ∧ ∀ k, k < m → ∃ B n cp, n ≤ 1000 ∧ RsV w B n cp (l.getD k RC0).es ∧
    w.cell? ⟨g, off + k * 8, none⟩ = some (.bool (l.getD k RC0).read) ∧ w.cell? ⟨g, off + k * 8 + 1, none⟩ = some (.int .i64 (l.getD k RC0).word) ∧ w.cell? ⟨g, off + k * 8 + 2, none⟩ = some (.slice B n cp) ∧ w.cell? ⟨g, off + k * 8 + 3, none⟩ = some (.int .i64 (l.getD k RC0).bg) ∧
    w.cell? ⟨g, off + k * 8 + 4, none⟩ = some (.int .i64 (l.getD k RC0).en) ∧ w.cell? ⟨g, off + k * 8 + 5, none⟩ = some (.bool (l.getD k RC0).ended) ∧ w.cell? ⟨g, off + k * 8 + 6, none⟩ = some (.bool (l.getD k RC0).ok) ∧ w.cell? ⟨g, off + k * 8 + 7, none⟩ = some (.int .u64 (l.getD k RC0).val)
theorem ClP.bl {w w' : World} {g off m : Nat} {l : List RCall} (h : ClP w g off m l) (hB : Below w.heap.size w w') : ClP w' g off m l := by
  refine ⟨Nat.lt_of_lt_of_le h.1 hB.size, fun k hk => ?_⟩
  obtain ⟨B, n, cp, hn, hR, t0, t1, t2, t3, t4, t5, t6, t7⟩ := h.2 k hk
  have hc : ∀ o, w'.cell? ⟨g, o, none⟩ = w.cell? ⟨g, o, none⟩ := fun o => hB.cell (p := ⟨g, o, none⟩) h.1
  exact ⟨B, n, cp, hn, hR.bl hB, by rw [hc]; exact t0, by rw [hc]; exact t1, by rw [hc]; exact t2, by rw [hc]; exact t3, by rw [hc]; exact t4, by rw [hc]; exact t5, by rw [hc]; exact t6, by rw [hc]; exact t7⟩
theorem ClV.ptr {w : World} {A : Option Addr} {m c : Nat} {l : List RCall} (h : ClV w A m c l) (hm : 0 < m) : ∃ g off, A = some ⟨g, off, none⟩ ∧ ClP w g off m l := by
  obtain ⟨g, off, B, n, cp, hA, hl, _⟩ := h.2.2 0 hm
  refine ⟨g, off, hA, hl, fun k hk => ?_⟩
  obtain ⟨g2, off2, B, n, cp, hA2, hl2, hn, hR, t⟩ := h.2.2 k hk
  rw [hA] at hA2
  injection hA2 with hA2
  injection hA2 with e1 e2
  subst e1 e2
  exact ⟨B, n, cp, hn, hR, t⟩
def BlP (w : World) (g off m : Nat) (bs : List Bool) : Prop := g < w.heap.size ∧ ∀ k, k < m → w.cell? ⟨g, off + k, none⟩ = some (.bool (bs.getD k true))
theorem BlP.bl {w w' : World} {g off m : Nat} {l : List Bool} (h : BlP w g off m l) (hB : Below w.heap.size w w') : BlP w' g off m l :=
  ⟨Nat.lt_of_lt_of_le h.1 hB.size, fun k hk => (hB.cell (p := ⟨g, off + k, none⟩) h.1).trans (h.2 k hk)⟩
def nxF (l : List RCall) (used : List Bool) (i k : Nat) : Bool := !(decide (k ≠ i) && (!used.getD k true && rBefore (l.getD k RC0) (l.getD i RC0)))
theorem range_all_succ (f : Nat → Bool) (j : Nat) : (List.range (j + 1)).all f = ((List.range j).all f && f j) := by simp [List.range_succ]
theorem range_all_false (f : Nat → Bool) {j m : Nat} (h : j < m) (hf : f j = false) : (List.range m).all f = false := by
  rw [Bool.eq_false_iff]
  intro ha
  rw [List.all_eq_true] at ha
  rw [ha j (by simpa using h)] at hf; cases hf
set_option maxRecDepth 100000 in
set_option maxHeartbeats 4000000 in
theorem refNext (w : World) (g off m c : Nat) (l : List RCall) (hl : l.length = m) (hm : m ≤ 1000) (hP : ClP w g off m l) (gu ou cu : Nat) (used : List Bool) (hU : BlP w gu ou m used) (i : Nat) (hi : i < m) :
    Calls Tryz.prog 94 #[.slice (some ⟨g, off, none⟩) m c, .slice (some ⟨gu, ou, none⟩) m cu, .int .i64 (i : Int)] w fun r w' => r = .returned (.bool (rNext l used i)) ∧ Below w.heap.size w w' := by
  have HP := Lib.hid hP
  have HU := Lib.hid hU
  have hgl := hP.1
  have hgu := hU.1
  have cu0 := hU.2 i hi
  have hiI : (i : Int) < (m : Int) := by omega
  have HDEF : Hid (rNext l used i = (!used.getD i true && (List.range m).all (nxF l used i))) := by show _ = _; rw [← hl]; rfl
  obtain ⟨ui, hui⟩ : ∃ b, used.getD i true = b := ⟨_, rfl⟩
  rw [hui] at cu0 HDEF
  cases ui with
  | true =>
    clear hP hU hui
    go_enter Tryz.func94, Tryz.ntmps94
    go_wp2
    exact bodyPost_ret (v := .bool false) (by simp [results, Tryz.results94, go_sem]) rfl ⟨by rw [HDEF.out]; rfl, by (repeat (first | with_reducible exact Below.refl _ _ | with_reducible refine bl_alloc ?_ _ | with_reducible refine bl_drew ?_ | with_reducible refine bl_drewN ?_ _ | with_reducible refine bl_bx ?_ _ | with_reducible exact BX.below _ | with_reducible refine bl_set ?_ (by first | (exact Nat.le_refl _) | (simp; done) | (simp; omega)) _ | assumption))⟩
  | false =>
    clear hP hU hui
    go_enter Tryz.func94, Tryz.ntmps94
    go_wp2
    go_loopw [14, 6, 7, 15, 16, 17, 18, 19, 20, 21, 22, 23, 24, 25, 26, 27, 28, 29, 30, 31, 32, 33, 34, 35, 36, 37, 38] (fun i' _ _ _ _ _ _ _ _ _ _ _ _ _ _ _ _ _ _ _ _ _ _ _ _ _ _ wr => ∃ j : Nat, j ≤ m ∧ i' = .int .i64 j ∧ (List.range j).all (nxF l used i) = true ∧ Below w.heap.size w wr) (fun i' _ _ _ _ _ _ _ _ _ _ _ _ _ _ _ _ _ _ _ _ _ _ _ _ _ _ _ => m - (intOf i').toNat)
    case atStart => exact ⟨0, by omega, rfl, by simp, Below.refl _ _⟩
    case round =>
      obtain ⟨j, hj, rfl, hall, hB⟩ := hrel
      have HALL := Lib.hid hall
      have HB := Lib.hid hB
      by_cases hlt : j < m
      · have hlt' : (j : Int) < (m : Int) := by omega
        have hstep := range_all_succ (nxF l used i) j
        rw [hall, Bool.true_and] at hstep
        have HNF := Lib.hid (range_all_false (nxF l used i) hlt)
        have HST := Lib.hid hstep
        have hgl2 : g < wr.heap.size := Nat.lt_of_lt_of_le hgl hB.size
        have hgu2 : gu < wr.heap.size := Nat.lt_of_lt_of_le hgu hB.size
        have cuj := (HU.out.bl hB).2 j hlt
        obtain ⟨B1, n1, p1, _, _, a0, a1, a2, a3, a4, a5, a6, a7⟩ := (HP.out.bl hB).2 j hlt
        obtain ⟨B2, n2, p2, _, _, b0, b1, b2, b3, b4, b5, b6, b7⟩ := (HP.out.bl hB).2 i hi
        obtain ⟨uj, huj⟩ : ∃ b, used.getD j true = b := ⟨_, rfl⟩
        have HUJ := Lib.hid huj
        rw [huj] at cuj
        by_cases hji : j = i
        · have hnx : Hid (nxF l used i j = true) := by show _ = _; unfold nxF; simp [hji]
          have hd : ((j : Int) != (i : Int)) = false := by simp; omega
          clear hall hB hstep huj a0 a1 a2 a3 a4 a5 a6 a7 b0 b1 b2 b3 b4 b5 b6 b7 cuj
          go_wp2
          go_quiet (fail)
          go_wp2
          exact ⟨⟨j + 1, by omega, by go_num, by rw [HST.out]; exact hnx.out, HB.out.trans ((by (repeat (first | with_reducible exact Below.refl _ _ | with_reducible refine bl_alloc ?_ _ | with_reducible refine bl_drew ?_ | with_reducible refine bl_drewN ?_ _ | with_reducible refine bl_bx ?_ _ | with_reducible exact BX.below _ | with_reducible refine bl_set ?_ (by first | (exact Nat.le_refl _) | (simp; done) | (simp; omega)) _ | assumption)) : Below wr.heap.size wr _).mono HB.out.size)⟩, by simp [intOf]; omega⟩
        · have hd : ((j : Int) != (i : Int)) = true := by simp; omega
          cases uj with
          | true =>
            have hnx : Hid (nxF l used i j = true) := by show _ = _; unfold nxF; rw [HUJ.out]; simp
            clear hall hB hstep huj a0 a1 a2 a3 a4 a5 a6 a7 b0 b1 b2 b3 b4 b5 b6 b7
            go_wp2
            go_quiet (fail)
            go_wp2
            exact ⟨⟨j + 1, by omega, by go_num, by rw [HST.out]; exact hnx.out, HB.out.trans ((by (repeat (first | with_reducible exact Below.refl _ _ | with_reducible refine bl_alloc ?_ _ | with_reducible refine bl_drew ?_ | with_reducible refine bl_drewN ?_ _ | with_reducible refine bl_bx ?_ _ | with_reducible exact BX.below _ | with_reducible refine bl_set ?_ (by first | (exact Nat.le_refl _) | (simp; done) | (simp; omega)) _ | assumption)) : Below wr.heap.size wr _).mono HB.out.size)⟩, by simp [intOf]; omega⟩
          | false =>
            have HBE : Hid (∀ W, Calls Tryz.prog 121 #[rcV (l.getD j RC0) B1 n1 p1, rcV (l.getD i RC0) B2 n2 p2] W fun r w' => r = .returned (.bool (rBefore (l.getD j RC0) (l.getD i RC0))) ∧ Below W.heap.size W w') := fun W => refBef W _ _ _ _ _ _ _ _
            have hnx : Hid (nxF l used i j = !rBefore (l.getD j RC0) (l.getD i RC0)) := by show _ = _; unfold nxF; rw [HUJ.out, decide_eq_true hji]; simp
            obtain ⟨bb, hbb⟩ : ∃ bb, rBefore (l.getD j RC0) (l.getD i RC0) = bb := ⟨_, rfl⟩
            rw [hbb] at HBE hnx
            obtain ⟨x, hx⟩ : ∃ x, l.getD j RC0 = x := ⟨_, rfl⟩
            obtain ⟨y, hy⟩ : ∃ y, l.getD i RC0 = y := ⟨_, rfl⟩
            rw [hx] at HBE a0 a1 a3 a4 a5 a6 a7
            rw [hy] at HBE b0 b1 b3 b4 b5 b6 b7
            obtain ⟨r1, w1, e1, bg1, en1, ed1, ok1, v1⟩ := x
            obtain ⟨r2, w2, e2, bg2, en2, ed2, ok2, v2⟩ := y
            unfold rcV at HBE
            dsimp only at HBE a0 a1 a2 a3 a4 a5 a6 a7 b0 b1 b2 b3 b4 b5 b6 b7
            clear hall hB hstep huj hbb hx hy
            cases bb with
            | true =>
              go_wp2
              refine wp_region_bx (by kernel_rfl) (by kernel_rfl) ?_
              repeat (go_big_quiet_step ((go_at_call 121; exact bx_call (HBE.out _))))
              refine wpQuiet_nil ?_
              rintro _ ⟨z, rfl⟩
              go_wp2
              exact bodyPost_ret (v := .bool false) (by simp [results, Tryz.results94, go_sem]) rfl ⟨by rw [HDEF.out, HNF.out (by rw [hnx.out]; rfl)]; rfl, HB.out.trans ((by (repeat (first | with_reducible exact Below.refl _ _ | with_reducible refine bl_alloc ?_ _ | with_reducible refine bl_drew ?_ | with_reducible refine bl_drewN ?_ _ | with_reducible refine bl_bx ?_ _ | with_reducible exact BX.below _ | with_reducible refine bl_set ?_ (by first | (exact Nat.le_refl _) | (simp; done) | (simp; omega)) _ | assumption)) : Below wr.heap.size wr _).mono HB.out.size)⟩
            | false =>
              go_wp2
              refine wp_region_bx (by kernel_rfl) (by kernel_rfl) ?_
              repeat (go_big_quiet_step ((go_at_call 121; exact bx_call (HBE.out _))))
              refine wpQuiet_nil ?_
              rintro _ ⟨z, rfl⟩
              go_wp2
              exact ⟨⟨j + 1, by omega, by go_num, by rw [HST.out, hnx.out]; rfl, HB.out.trans ((by (repeat (first | with_reducible exact Below.refl _ _ | with_reducible refine bl_alloc ?_ _ | with_reducible refine bl_drew ?_ | with_reducible refine bl_drewN ?_ _ | with_reducible refine bl_bx ?_ _ | with_reducible exact BX.below _ | with_reducible refine bl_set ?_ (by first | (exact Nat.le_refl _) | (simp; done) | (simp; omega)) _ | assumption)) : Below wr.heap.size wr _).mono HB.out.size)⟩, by simp [intOf]; omega⟩
      · obtain rfl : j = m := by omega
        clear hall hB
        go_wp2
        exact bodyPost_ret (v := .bool true) (by simp [results, Tryz.results94, go_sem]) rfl ⟨by rw [HDEF.out, HALL.out]; rfl, HB.out⟩
end Go.Proofs.YtjaohgnloddgfaaGreatDoor

namespace Go.Proofs.YtjaohgnloddgfaaGreatDoor
open Go.RowKit
set_option linter.unusedVariables false
set_option linter.unusedSimpArgs false

theorem rd_cells {w : World} {A : Option Addr} {ws : List Int} (h : Rd .u64 w A ws) (h1 : 0 < ws.length) : ∃ b o, A = some ⟨b, o, none⟩ ∧ b < w.heap.size ∧ ∀ (j : Nat) (u : Value), (uints ws)[j]? = some u → w.cell? ((⟨b, o, none⟩ : Addr).add j) = some u := by
  rcases h with rfl | ⟨b, o, hA, hl, hc⟩
  · simp at h1
  · refine ⟨b, o, hA, hl, fun j u hu => ?_⟩
    have h1 : (⟨b, o, none⟩ : Addr).add j = ⟨b, o + j, none⟩ := by unfold Addr.add; split <;> simp_all
    have hj : j < ws.length := by have := (List.getElem?_eq_some_iff.1 hu).1; rwa [length_uints] at this
    rw [h1, hc j hj, ← hu]
    simp [uints, hj]
theorem rSet_take_succ (vs : List Int) (es : List REnt) {j : Nat} (hj : j < es.length) : rSet vs (es.take (j + 1)) = (rSet vs (es.take j)).set (es.getD j RE0).word (es.getD j RE0).new := by
  unfold rSet
  rw [List.take_succ_eq_append_getElem hj, List.foldl_append, List.getD_eq_getElem?_getD, List.getElem?_eq_getElem hj]
  rfl
theorem slEmpty (w : World) (e : TypeId) : Sl e 1 (w.alloc (.cells #[] e)) (some ⟨w.heap.size, 0, none⟩) 0 0 [] :=
  ⟨rfl, .inr ⟨_, 0, _, rfl, CB.new _ _ _, Nat.le_refl _, Nat.zero_le _, Nat.le_refl _, rfl⟩⟩
def ApPost (w : World) (xs : List Int) (e : Ending) (w' : World) : Prop := ∃ A c, e = .returned (.slice A 8 c) ∧ Rd .u64 w' A xs ∧ Below w.heap.size w w' ∧ ∀ b, OwnB A b → w.heap.size ≤ b ∧ b < w'.heap.size
set_option maxRecDepth 100000 in
set_option maxHeartbeats 4000000 in
theorem refApply (w : World) (A : Option Addr) (c8 : Nat) (vs : List Int) (hl : vs.length = 8) (hR : Rd .u64 w A vs) (B : Option Addr) (m c : Nat) (es : List REnt) (hm : m ≤ 1000) (hS : RsV w B m c es) (hw : ∀ e ∈ es, e.word < 8) :
    Calls Tryz.prog 37 #[.slice A 8 c8, .slice B m c] w (ApPost w (rApply vs es)) := by
  have HSA : Hid (∀ W, Below w.heap.size w W → Calls Tryz.prog 36 #[.slice A 8 c8, .slice B m c] W fun r w' => r = .returned (.bool (rSat vs es)) ∧ Below W.heap.size W w') := fun W hW => refSat W A c8 vs hl (hR.below hW) B m c es hm (hS.bl hW) hw
  obtain ⟨b0, o0, hA0, hb0, hcs⟩ := rd_cells hR (by rw [hl]; omega)
  subst hA0
  have HCS := Lib.hid hcs
  have HL := Lib.hid hl
  have HS := Lib.hid hS
  have HW := Lib.hid hw
  have HM : Hid (es.length = m) := hS.1
  have HDEF : Hid (rApply vs es = if rSat vs es then rSet vs es else vs) := rfl
  obtain ⟨sv, hsv⟩ : ∃ sv, rSat vs es = sv := ⟨_, rfl⟩
  rw [hsv] at HSA HDEF
  clear hcs hR hl hS hw hsv
  go_enter Tryz.func37, Tryz.ntmps37
  go_upto_region 2 with (first
    | (at_builtin; refine wpList_append_sl rfl (.tmp 8) (.tmp 9) 28 rfl 23 (.int .u64 0) 1 8 rfl (by omega) Tryz.underlying28 info_u64 (by omega) (some ⟨w.heap.size, 0, none⟩) 0 0 [] ⟨b0, o0, none⟩ 8 c8 (uints vs) rfl rfl (slEmpty w 23) (by rw [length_uints, HL.out]) (by omega) (fun j u hu => ((bl_alloc (Below.refl _ _) _ : Below w.heap.size w _).cell (p := (⟨b0, o0, none⟩ : Addr).add j) (by unfold Addr.add; split <;> exact hb0)).trans (HCS.out j u hu)) (uints_one _) (by omega) ?_; intro A3 c3 w3 HO3 HC3 HW3 HG3))
  obtain rfl := HG3.out (by omega)
  have HS0 : Hid (Sl 23 1 w3 (some ⟨w.heap.size + 1, 0, none⟩) 8 c3 (uints vs)) := by have := HO3.out; show Sl _ _ _ _ _ _ _; simpa using this
  have HB3 : Hid (Below w.heap.size w w3) := bl_ch (bl_alloc (Below.refl _ _) _) HC3.out (fun b hb => by simp [OwnB] at hb; omega)
  have HGO : Hid (w.heap.size ≤ w.heap.size + 1) := Nat.le_succ _
  obtain ⟨go, hgo⟩ : ∃ go, w.heap.size + 1 = go := ⟨_, rfl⟩
  have e1 : (w.alloc (.cells #[] 23)).heap.size = go := by rw [← hgo]; simp
  rw [hgo] at HS0 HGO
  try rw [e1]
  clear HO3 HC3 HW3 HG3 HCS hgo e1
  cases sv with
  | false =>
    go_wp2_with (go_at_call 36; refine (HSA.out _ HB3.out).mono ?_; rintro e w' ⟨rfl, hb⟩; obtain ⟨x, rfl⟩ := bx_of hb; clear hb)
    exact bodyPost_ret (v := .slice (some ⟨go, 0, none⟩) 8 c3) (by simp [results, Tryz.results37, go_sem]) rfl ⟨_, _, rfl, by rw [HDEF.out]; exact (HS0.out.rdW).below x.below, bl_bx HB3.out x, fun b hb => ⟨(by have hb : go = b := (by simpa [OwnB] using hb); rw [← hb]; exact HGO.out), by have := HS0.out.lt hb; have := x.size; omega⟩⟩
  | true =>
    go_upto_region 5 with (go_at_call 36; refine (HSA.out _ HB3.out).mono ?_; rintro e w' ⟨rfl, hb⟩; obtain ⟨x, rfl⟩ := bx_of hb; clear hb)
    have HS1 : Hid (Sl 23 1 x.w (some ⟨go, 0, none⟩) 8 c3 (uints vs)) := HS0.out.keep (fun b hb => x.below.block b (HS0.out.lt hb))
    have HBX : Hid (Below w.heap.size w x.w) := bl_bx HB3.out x
    obtain ⟨W1, hW1⟩ : ∃ W1, x.w = W1 := ⟨_, rfl⟩
    rw [hW1] at HS1 HBX ⊢
    clear HS0 HB3 HSA hW1
    go_wp2
    go_loopw [18, 7, 19, 20, 21, 22, 23, 24, 25, 26, 27, 28] (fun i _ _ _ _ _ _ _ _ _ _ _ wr => ∃ j : Nat, j ≤ m ∧ i = .int .i64 j ∧ Sl 23 1 wr (some ⟨go, 0, none⟩) 8 c3 (uints (rSet vs (es.take j))) ∧ Below w.heap.size w wr) (fun i _ _ _ _ _ _ _ _ _ _ _ _ => m - (intOf i).toNat)
    case atStart => exact ⟨0, by omega, rfl, by simpa [rSet] using HS1.out, HBX.out⟩
    case round =>
      clear HS1 HBX
      obtain ⟨j, hj, rfl, hSl, hB⟩ := hrel
      have HSl := Lib.hid hSl
      have HB := Lib.hid hB
      by_cases hlt : j < m
      · have hlt' : (j : Int) < (m : Int) := by omega
        have hje : j < es.length := by rw [HM.out]; exact hlt
        obtain ⟨g2, off2, hA, hgl, t1, t2, t3⟩ := (HS.out.bl hB).2.2 j hlt
        have hwd := HW.out _ (getD_mem es RE0 hje)
        have HST := Lib.hid (rSet_take_succ vs es hje)
        obtain ⟨e, he⟩ : ∃ e, es.getD j RE0 = e := ⟨_, rfl⟩
        rw [he] at t1 t2 t3 hwd HST
        obtain ⟨ew, eo, en⟩ := e
        dsimp only at t1 t2 t3 hwd HST
        have hwd' : (ew : Int) < 8 := by omega
        have hlen : (rSet vs (es.take j)).length = 8 := by rw [length_rSet]; exact HL.out
        obtain ⟨ov, hov⟩ : ∃ ov, wr.cell? ⟨go, ew, none⟩ = some ov := by
          have := (hSl.rdW).at_ (i := ew) (by rw [hlen]; exact hwd)
          obtain ⟨b, o, hA2, _, hc⟩ := this
          injection hA2 with hA2
          injection hA2 with e1 e2
          subst e1 e2
          rw [Nat.zero_add] at hc
          exact ⟨_, hc⟩
        have hfz := hSl.unfrozen ew
        have hgo := hSl.lt (b := go) (by simp [OwnB])
        subst hA
        have HLEN := Lib.hid hlen
        clear hSl hB he hlen
        go_wp2
        refine ⟨⟨j + 1, by omega, by go_num, ?_, bl_alloc (bl_set HB.out (p := ⟨go, ew, none⟩) HGO.out _) _⟩, by simp [intOf]; omega⟩
        rw [HST.out, uints_set]
        have h1 := HSl.out.set (j := ew) (by rw [length_uints, HLEN.out]; exact hwd) (.int .u64 en)
        rw [Nat.zero_add] at h1
        exact h1.keep (fun b hb => Below.heap_alloc _ _ _ (h1.lt hb))
      · obtain rfl : j = m := by omega
        have hf : es.take j = es := List.take_of_length_le (by rw [HM.out]; exact Nat.le_refl _)
        rw [hf] at hSl
        have HF := Lib.hid hSl
        clear hSl hB HSl hf
        go_wp2
        exact bodyPost_ret (v := .slice (some ⟨go, 0, none⟩) 8 c3) (by simp [results, Tryz.results37, go_sem]) rfl ⟨_, _, rfl, by rw [HDEF.out]; exact HF.out.rdW, HB.out, fun b hb => ⟨(by have hb : go = b := (by simpa [OwnB] using hb); rw [← hb]; exact HGO.out), HF.out.lt hb⟩⟩
end Go.Proofs.YtjaohgnloddgfaaGreatDoor

namespace Go.Proofs.YtjaohgnloddgfaaGreatDoor
open Go.RowKit
set_option linter.unusedVariables false
set_option linter.unusedSimpArgs false

theorem info_bl17 : (Tryz.prog.info? 4).map (fun i => (i.zero, i.size, i.bytes)) = some (some (.bool false), 1, 1) := by kernel_rfl
theorem bools_one (bs : List Bool) : ∀ u ∈ bools bs, u.oneCell' = true := by
  intro u hu
  obtain ⟨x, _, rfl⟩ := List.mem_map.1 hu
  rfl
theorem length_bools (bs : List Bool) : (bools bs).length = bs.length := by simp [bools]
theorem bools_set' (bs : List Bool) (k : Nat) (b : Bool) : bools (bs.set k b) = (bools bs).set k (.bool b) := by simp [bools, List.map_set]
theorem BlP.cells {w : World} {g off m : Nat} {bs : List Bool} (h : BlP w g off m bs) (hl : bs.length = m) : ∀ (j : Nat) (u : Value), (bools bs)[j]? = some u → w.cell? ((⟨g, off, none⟩ : Addr).add j) = some u := by
  intro j u hu
  have h1 : (⟨g, off, none⟩ : Addr).add j = ⟨g, off + j, none⟩ := by unfold Addr.add; split <;> simp_all
  have hj : j < bs.length := by have := (List.getElem?_eq_some_iff.1 hu).1; rwa [length_bools] at this
  rw [h1, h.2 j (by omega), ← hu]
  simp [bools, hj]
theorem Sl.blP {w : World} {g m c : Nat} {bs : List Bool} (h : Sl 4 1 w (some ⟨g, 0, none⟩) m c (bools bs)) : BlP w g 0 m bs := by
  have hl := h.1
  rw [length_bools] at hl
  refine ⟨h.lt (b := g) (by simp [OwnB]), fun k hk => ?_⟩
  have hkl : k < bs.length := by omega
  obtain ⟨g2, off, hA, _, hc⟩ := h.at_ (j := k) (by rw [length_bools]; exact hkl)
  injection hA with hA
  injection hA with e1 e2
  subst e1 e2
  rw [Nat.zero_add] at hc ⊢
  rw [hc]
  simp [bools, List.getD_eq_getElem?_getD, hkl]
def alF (l : List RCall) (used : List Bool) (i : Nat) : Bool := used.getD i true || !(l.getD i RC0).ended
def anG (l : List RCall) (vs : List Int) (used : List Bool) (E : List Int → List Bool → Bool) (i : Nat) : Bool := rNext l used i && rFits vs (l.getD i RC0) && E (rAfter vs (l.getD i RC0)) (used.set i true)
theorem range_any_succ (f : Nat → Bool) (j : Nat) : (List.range (j + 1)).any f = ((List.range j).any f || f j) := by simp [List.range_succ]
theorem range_any_true (f : Nat → Bool) {j m : Nat} (h : j < m) (hf : f j = true) : (List.range m).any f = true := List.any_eq_true.2 ⟨j, by simpa using h, hf⟩
set_option maxRecDepth 100000 in
set_option maxHeartbeats 8000000 in
theorem refExplW (w : World) (A : Option Addr) (c8 : Nat) (vs : List Int) (hl : vs.length = 8) (hR : Rd .u64 w A vs) (AL : Option Addr) (m c : Nat) (l : List RCall) (hll : l.length = m) (hm : m ≤ 1000)
    (hP : 0 < m → ∃ g off, AL = some ⟨g, off, none⟩ ∧ ClP w g off m l) (hw : ∀ k, k < m → (l.getD k RC0).word < 8 ∧ ∀ e ∈ (l.getD k RC0).es, e.word < 8)
    (AU : Option Addr) (cu : Nat) (used : List Bool) (hul : used.length = m) (hU : 0 < m → ∃ gu ou, AU = some ⟨gu, ou, none⟩ ∧ BlP w gu ou m used) (F : Option Addr) (cf : Nat) (fin : List Int) (hf : fin.length = 8) (hF : Rd .u64 w F fin) (E : List Int → List Bool → Bool)
    (hE : ∀ (W : World) (A' : Option Addr) (c' : Nat) (vs' : List Int) (g2 o2 c2 : Nat) (i : Nat), Below w.heap.size w W → vs'.length = 8 → Rd .u64 W A' vs' → i < m → used.getD i true = false → BlP W g2 o2 m (used.set i true) →
      Calls Tryz.prog 67 #[.slice A' 8 c', .slice AL m c, .slice (some ⟨g2, o2, none⟩) m c2, .slice F 8 cf] W fun r w' => r = .returned (.bool (E vs' (used.set i true))) ∧ Below W.heap.size W w') :
    Calls Tryz.prog 67 #[.slice A 8 c8, .slice AL m c, .slice AU m cu, .slice F 8 cf] w fun r w' => r = .returned (.bool ((rAll l used && vs == fin) || (List.range m).any (anG l vs used E))) ∧ Below w.heap.size w w' := by
  have HR := Lib.hid hR
  have HL := Lib.hid hl
  have HP := Lib.hid hP
  have HW := Lib.hid hw
  have HU := Lib.hid hU
  have HUL := Lib.hid hul
  have HLL := Lib.hid hll
  have HE := Lib.hid hE
  have HSM : Hid (∀ W, Below w.heap.size w W → Calls Tryz.prog 93 #[.slice A 8 c8, .slice F 8 cf] W fun r w' => r = .returned (.bool (vs == fin)) ∧ Below W.heap.size W w') := fun W hW => refSame W A F c8 cf vs fin hl hf (hR.below hW) (hF.below hW)
  have HALL : Hid (rAll l used = (List.range m).all (alF l used)) := by show _ = _; rw [← hll]; rfl
  obtain ⟨sm, hsm⟩ : ∃ sm, (vs == fin) = sm := ⟨_, rfl⟩
  rw [hsm] at HSM ⊢
  rw [HALL.out]
  clear hR hl hP hw hU hul hll hE hf hF hsm HALL
  go_enter Tryz.func67, Tryz.ntmps67
  go_wp2
  go_loopw [16, 9, 10, 17, 18, 19, 20, 21, 22, 23, 24, 25, 26, 27, 28, 29, 30, 31, 32, 33, 34] (fun i b _ _ _ _ _ _ _ _ _ _ _ _ _ _ _ _ _ _ _ wr => ∃ j : Nat, j ≤ m ∧ i = .int .i64 j ∧ b = .bool ((List.range j).all (alF l used)) ∧ Below w.heap.size w wr) (fun i b _ _ _ _ _ _ _ _ _ _ _ _ _ _ _ _ _ _ _ _ => m - (intOf i).toNat)
  case atStart => exact ⟨0, by omega, rfl, by simp, Below.refl _ _⟩
  case round =>
    obtain ⟨j, hj, rfl, rfl, hB⟩ := hrel
    have HB := Lib.hid hB
    by_cases hlt : j < m
    · have hlt' : (j : Int) < (m : Int) := by omega
      have HST := Lib.hid (range_all_succ (alF l used) j)
      obtain ⟨g, off, hA, hPP⟩ := HP.out (by omega)
      obtain ⟨gu, ou, hAU, hUU⟩ := HU.out (by omega)
      have hgl2 : g < wr.heap.size := (hPP.bl hB).1
      have hgu2 : gu < wr.heap.size := (hUU.bl hB).1
      have cuj := (hUU.bl hB).2 j hlt
      obtain ⟨B1, n1, p1, _, _, a0, a1, a2, a3, a4, a5, a6, a7⟩ := (hPP.bl hB).2 j hlt
      have HAF : Hid (alF l used j = (used.getD j true || !(l.getD j RC0).ended)) := rfl
      obtain ⟨uj, huj⟩ : ∃ b, used.getD j true = b := ⟨_, rfl⟩
      obtain ⟨ed, hed⟩ : ∃ b, (l.getD j RC0).ended = b := ⟨_, rfl⟩
      rw [huj, hed] at HAF
      rw [huj] at cuj
      rw [hed] at a5
      obtain ⟨av, hav⟩ : ∃ av, (List.range j).all (alF l used) = av := ⟨_, rfl⟩
      rw [hav] at HST ⊢
      rw [HAF.out] at HST
      clear hB hPP hUU huj hed hav a0 a1 a2 a3 a4 a6 a7 HAF
      subst hA hAU
      cases av with
      | false =>
        go_wp2
        exact ⟨⟨j + 1, by omega, by go_num, by rw [HST.out]; rfl, HB.out⟩, by simp [intOf]; omega⟩
      | true =>
        cases uj with
        | true =>
          go_wp2
          exact ⟨⟨j + 1, by omega, by go_num, by rw [HST.out]; rfl, HB.out⟩, by simp [intOf]; omega⟩
        | false =>
          go_wp2
          exact ⟨⟨j + 1, by omega, by go_num, by rw [HST.out]; rfl, HB.out⟩, by simp [intOf]; omega⟩
    · obtain rfl : j = m := by omega
      obtain ⟨ra, hra⟩ : ∃ ra, (List.range j).all (alF l used) = ra := ⟨_, rfl⟩
      rw [hra]
      have HRA := Lib.hid hra
      clear hB hra
      rcases (by cases ra <;> cases sm <;> simp : (ra = true ∧ sm = true) ∨ ra = false ∨ (ra = true ∧ sm = false)) with ⟨rfl, rfl⟩ | rfl | ⟨rfl, rfl⟩
      · go_wp2_with (go_at_call 93; refine (HSM.out _ HB.out).mono ?_; rintro e w' ⟨rfl, hb⟩; obtain ⟨x, rfl⟩ := bx_of hb; clear hb)
        exact bodyPost_ret (v := .bool true) (by simp [results, Tryz.results67, go_sem]) rfl ⟨by rw [HRA.out]; rfl, bl_bx HB.out x⟩
      · go_upto_region 9 with (go_at_call 93; refine (HSM.out _ HB.out).mono ?_; rintro e w' ⟨rfl, hb⟩; obtain ⟨x, rfl⟩ := bx_of hb; clear hb)
        have HBX : Hid (Below w.heap.size w wr) := HB.out
        go_wp2
        go_loopw [43, 8, 11, 12, 13, 44, 45, 46, 47, 48, 49, 50, 51, 52, 53, 54, 55, 56, 57, 58, 59, 60, 61, 62, 63, 64, 65, 66, 67, 68, 69, 70, 71, 72, 73, 74, 75, 76, 77, 78, 79, 80, 81, 82, 83, 84, 85] (fun i _ _ _ _ _ _ _ _ _ _ _ _ _ _ _ _ _ _ _ _ _ _ _ _ _ _ _ _ _ _ _ _ _ _ _ _ _ _ _ _ _ _ _ _ _ _ wr => ∃ q : Nat, q ≤ j ∧ i = .int .i64 q ∧ (List.range q).any (anG l vs used E) = false ∧ Below w.heap.size w wr) (fun i _ _ _ _ _ _ _ _ _ _ _ _ _ _ _ _ _ _ _ _ _ _ _ _ _ _ _ _ _ _ _ _ _ _ _ _ _ _ _ _ _ _ _ _ _ _ _ => j - (intOf i).toNat)
        case atStart => exact ⟨0, by omega, rfl, by simp, HBX.out⟩
        case round =>
          clear HBX HB
          obtain ⟨q, hq, rfl, hany, hB⟩ := hrel
          have HANY := Lib.hid hany
          have HB := Lib.hid hB
          by_cases hlt : q < j
          · have hlt' : (q : Int) < (j : Int) := by omega
            have hst := range_any_succ (anG l vs used E) q
            rw [hany, Bool.false_or] at hst
            have HST := Lib.hid hst
            have HTR := Lib.hid (range_any_true (anG l vs used E) hlt)
            obtain ⟨g, off, hA, hPP⟩ := HP.out (by omega)
            obtain ⟨gu, ou, hAU, hUU⟩ := HU.out (by omega)
            subst hA hAU
            have hgl2 : g < wr.heap.size := (hPP.bl hB).1
            have hgu2 : gu < wr.heap.size := (hUU.bl hB).1
            obtain ⟨B1, n1, p1, hn1, hR1, a0, a1, a2, a3, a4, a5, a6, a7⟩ := (hPP.bl hB).2 q hlt
            have HPP := Lib.hid (hPP.bl hB)
            have HUU := Lib.hid (hUU.bl hB)
            have HR1 := Lib.hid hR1
            obtain ⟨hw1, hw2⟩ := HW.out q hlt
            have HW2 := Lib.hid hw2
            have HNX : Hid (∀ W, Below wr.heap.size wr W → Calls Tryz.prog 94 #[.slice (some ⟨g, off, none⟩) j c, .slice (some ⟨gu, ou, none⟩) j cu, .int .i64 (q : Int)] W fun r w' => r = .returned (.bool (rNext l used q)) ∧ Below W.heap.size W w') := fun W hW => refNext W g off j c l HLL.out hm (HPP.out.bl hW) gu ou cu used (HUU.out.bl hW) q hlt
            have HFT : Hid (∀ W, Below wr.heap.size wr W → Calls Tryz.prog 95 #[.slice A 8 c8, rcV (l.getD q RC0) B1 n1 p1] W fun r w' => r = .returned (.bool (rFits vs (l.getD q RC0))) ∧ Below W.heap.size W w') := fun W hW => refFits W A c8 vs HL.out ((HR.out.below HB.out).below hW) _ B1 n1 p1 hn1 (HR1.out.bl hW) hw1 HW2.out
            have HAP : Hid (∀ W, Below wr.heap.size wr W → Calls Tryz.prog 37 #[.slice A 8 c8, .slice B1 n1 p1] W (ApPost W (rApply vs (l.getD q RC0).es))) := fun W hW => refApply W A c8 vs HL.out ((HR.out.below HB.out).below hW) B1 n1 p1 _ hn1 (HR1.out.bl hW) HW2.out
            have HUS : Hid (rNext l used q = true → used.getD q true = false) := fun h => by
              unfold rNext at h
              rw [Bool.and_eq_true] at h
              simpa using h.1
            have HG : Hid (anG l vs used E q = (rNext l used q && rFits vs (l.getD q RC0) && E (rAfter vs (l.getD q RC0)) (used.set q true))) := rfl
            have HAF : Hid (rAfter vs (l.getD q RC0) = if (l.getD q RC0).read then vs else rApply vs (l.getD q RC0).es) := rfl
            obtain ⟨rn, hrn⟩ : ∃ rn, rNext l used q = rn := ⟨_, rfl⟩
            obtain ⟨rf, hrf⟩ : ∃ rf, rFits vs (l.getD q RC0) = rf := ⟨_, rfl⟩
            obtain ⟨va, hva⟩ : ∃ va, rAfter vs (l.getD q RC0) = va := ⟨_, rfl⟩
            rw [hrn] at HNX HG HUS
            rw [hrf] at HFT HG
            rw [hva] at HG HAF
            obtain ⟨x, hx⟩ : ∃ x, l.getD q RC0 = x := ⟨_, rfl⟩
            rw [hx] at HFT HAP HAF a0 a1 a3 a4 a5 a6 a7
            obtain ⟨r1, w1, e1, bg1, en1, ed1, ok1, v1⟩ := x
            unfold rcV at HFT
            dsimp only at HFT HAP HAF a0 a1 a2 a3 a4 a5 a6 a7
            clear hPP hUU hR1 hw1 hw2 hrn hrf hva hx hany hB hst
            cases rn with
            | false =>
              go_wp2_with (go_at_call 94; refine (HNX.out _ (Below.refl _ _)).mono ?_; rintro e w' ⟨rfl, hb⟩; obtain ⟨x1, rfl⟩ := bx_of hb; clear hb)
              exact ⟨⟨q + 1, by omega, by go_num, by rw [HST.out, HG.out]; rfl, bl_bx HB.out x1⟩, by simp [intOf]; omega⟩
            | true =>
              cases rf with
              | false =>
                go_wp2_with (first
                  | (go_at_call 94; refine (HNX.out _ (Below.refl _ _)).mono ?_; rintro e w' ⟨rfl, hb⟩; obtain ⟨x1, rfl⟩ := bx_of hb; clear hb)
                  | (go_at_call 95; refine (HFT.out _ (by (repeat (first | with_reducible exact Below.refl _ _ | with_reducible refine bl_alloc ?_ _ | with_reducible refine bl_drew ?_ | with_reducible refine bl_drewN ?_ _ | with_reducible refine bl_bx ?_ _ | with_reducible exact BX.below _ | with_reducible refine bl_set ?_ (by first | (exact Nat.le_refl _) | (simp; done) | (simp; omega)) _ | assumption)))).mono ?_; rintro e w' ⟨rfl, hb⟩; obtain ⟨x2, rfl⟩ := bx_of hb; clear hb))
                exact ⟨⟨q + 1, by omega, by go_num, by rw [HST.out, HG.out]; rfl, bl_bx (bl_bx HB.out x1) x2⟩, by simp [intOf]; omega⟩
              | true =>
                rw [Bool.true_and, Bool.true_and] at HG
                go_upto_region 14 with (first
                  | (go_at_call 94; refine (HNX.out _ (Below.refl _ _)).mono ?_; rintro e w' ⟨rfl, hb⟩; obtain ⟨x1, rfl⟩ := bx_of hb; clear hb)
                  | (go_at_call 95; refine (HFT.out _ (by (repeat (first | with_reducible exact Below.refl _ _ | with_reducible refine bl_alloc ?_ _ | with_reducible refine bl_drew ?_ | with_reducible refine bl_drewN ?_ _ | with_reducible refine bl_bx ?_ _ | with_reducible exact BX.below _ | with_reducible refine bl_set ?_ (by first | (exact Nat.le_refl _) | (simp; done) | (simp; omega)) _ | assumption)))).mono ?_; rintro e w' ⟨rfl, hb⟩; obtain ⟨x2, rfl⟩ := bx_of hb; clear hb)
                  | (at_builtin; refine wpList_append_sl rfl (.tmp 60) (.tmp 61) 115 rfl 4 (.bool false) 1 1 rfl (by omega) Tryz.underlying115 info_bl17 (by omega) (some ⟨x2.w.heap.size, 0, none⟩) 0 0 [] ⟨gu, ou, none⟩ j cu (bools used) rfl rfl (slEmpty x2.w 4) (by rw [length_bools, HUL.out]; omega) (by omega) (BlP.cells (HUU.out.bl (bl_alloc (bl_bx (bl_bx (Below.refl _ _) x1) x2) _)) HUL.out) (bools_one _) (by omega) ?_; intro A3 c3 w3 HO3 HC3 HW3 HG3))
                obtain rfl := HG3.out (by omega)
                have hsz : wr.heap.size ≤ x2.w.heap.size := Nat.le_trans x1.size x2.size
                have HS0 : Hid (Sl 4 1 w3 (some ⟨x2.w.heap.size + 1, 0, none⟩) j c3 (bools used)) := by have := HO3.out; show Sl _ _ _ _ _ _ _; simpa using this
                have HB3 : Hid (Below wr.heap.size wr w3) := bl_ch (bl_alloc (bl_bx (bl_bx (Below.refl _ _) x1) x2) _) HC3.out (fun b hb => by simp [OwnB] at hb; omega)
                have HGM : Hid (wr.heap.size ≤ x2.w.heap.size + 1) := by show _ ≤ _; omega
                obtain ⟨gm, hgm⟩ : ∃ gm, x2.w.heap.size + 1 = gm := ⟨_, rfl⟩
                have e1 : (x2.w.alloc (.cells #[] 4)).heap.size = gm := by rw [← hgm]; simp
                rw [hgm] at HS0 HGM
                try rw [e1]
                have hov : w3.cell? ⟨gm, q, none⟩ = some (.bool (used.getD q true)) := by have := HS0.out.blP.2 q hlt; rwa [Nat.zero_add] at this
                have hfz := HS0.out.unfrozen q
                have hgl3 := HS0.out.lt (b := gm) (by simp [OwnB])
                have HSS : Hid (BlP (w3.setCell ⟨gm, q, none⟩ (.bool true)) gm 0 j (used.set q true)) := by
                  have h1 := HS0.out.set (j := q) (by rw [length_bools, HUL.out]; exact hlt) (.bool true)
                  rw [Nat.zero_add, ← bools_set'] at h1
                  exact h1.blP
                have HBS : Hid (Below wr.heap.size wr (w3.setCell ⟨gm, q, none⟩ (.bool true))) := bl_set HB3.out (p := ⟨gm, q, none⟩) HGM.out _
                clear HO3 HC3 HW3 HG3 HS0 HB3 HNX HFT hgm e1
                go_upto_region 15 with (fail)
                obtain ⟨W4, hW4⟩ : ∃ W4, w3.setCell ⟨gm, q, none⟩ (.bool true) = W4 := ⟨_, rfl⟩
                rw [hW4] at HSS HBS ⊢
                have hgl4 : g < W4.heap.size := Nat.lt_of_lt_of_le hgl2 HBS.out.size
                have b0 : W4.cell? ⟨g, off + q * 8, none⟩ = some (.bool r1) := (HBS.out.cell (p := ⟨g, off + q * 8, none⟩) hgl2).trans a0
                have b2 : W4.cell? ⟨g, off + q * 8 + 2, none⟩ = some (.slice B1 n1 p1) := (HBS.out.cell (p := ⟨g, off + q * 8 + 2, none⟩) hgl2).trans a2
                have HUQ : Hid (used.getD q true = false) := HUS.out (by first | rfl | trivial)
                have HRC : Hid (∀ (W : World) (A' : Option Addr) (c' : Nat) (vs' : List Int), Below W4.heap.size W4 W → vs'.length = 8 → Rd .u64 W A' vs' → Calls Tryz.prog 67 #[.slice A' 8 c', .slice (some ⟨g, off, none⟩) j c, .slice (some ⟨gm, 0, none⟩) j c3, .slice F 8 cf] W fun r w' => r = .returned (.bool (E vs' (used.set q true))) ∧ Below W.heap.size W w') :=
                  fun W A' c' vs' hW hv hr => HE.out W A' c' vs' gm 0 c3 q (HB.out.trans ((HBS.out.trans (hW.mono HBS.out.size)).mono HB.out.size)) hv hr hlt HUQ.out (HSS.out.bl hW)
                clear hW4 hov hfz hgl3 a0 a1 a2 a3 a4 a5 a6 a7 HUS
                cases r1 with
                | true =>
                  have hva : va = vs := HAF.out
                  subst hva
                  obtain ⟨ev, hev⟩ : ∃ ev, E va (used.set q true) = ev := ⟨_, rfl⟩
                  rw [hev] at HG
                  have HRV := Lib.hid (HRC.out W4 A c8 va (Below.refl _ _) HL.out ((HR.out.below HB.out).below HBS.out))
                  rw [hev] at HRV
                  clear hev HRC HAP
                  cases ev with
                  | true =>
                    go_wp2_with (go_at_call 67; refine HRV.out.mono ?_; rintro e w' ⟨rfl, hb⟩; obtain ⟨x5, rfl⟩ := bx_of hb; clear hb)
                    exact bodyPost_ret (v := .bool true) (by simp [results, Tryz.results67, go_sem]) rfl ⟨by rw [HTR.out HG.out, Bool.or_true], bl_bx (HB.out.trans (HBS.out.mono HB.out.size)) x5⟩
                  | false =>
                    go_wp2_with (go_at_call 67; refine HRV.out.mono ?_; rintro e w' ⟨rfl, hb⟩; obtain ⟨x5, rfl⟩ := bx_of hb; clear hb)
                    exact ⟨⟨q + 1, by omega, by go_num, by rw [HST.out, HG.out], bl_bx (HB.out.trans (HBS.out.mono HB.out.size)) x5⟩, by simp [intOf]; omega⟩
                | false =>
                  have hva : va = rApply vs e1 := HAF.out
                  have HVL : Hid (va.length = 8) := by
                    show _ = _
                    rw [hva]; unfold rApply; split
                    · rw [length_rSet]; exact HL.out
                    · exact HL.out
                  rw [← hva] at HAP
                  obtain ⟨ev, hev⟩ : ∃ ev, E va (used.set q true) = ev := ⟨_, rfl⟩
                  rw [hev] at HG
                  have HRV := Lib.hid (fun (W : World) (A' : Option Addr) (c' : Nat) hW hr => HRC.out W A' c' va hW HVL.out hr)
                  rw [hev] at HRV
                  clear hev HRC hva
                  cases ev with
                  | true =>
                    go_wp2_with (first
                      | (go_at_call 37; refine (HAP.out _ HBS.out).mono ?_; rintro e w' ⟨A5, c5, rfl, hR5, hb, _⟩; have HR5 := Lib.hid hR5; obtain ⟨x4, rfl⟩ := bx_of hb; clear hb hR5)
                      | (go_at_call 67; refine (HRV.out _ A5 c5 x4.below HR5.out).mono ?_; rintro e w' ⟨rfl, hb⟩; obtain ⟨x5, rfl⟩ := bx_of hb; clear hb))
                    exact bodyPost_ret (v := .bool true) (by simp [results, Tryz.results67, go_sem]) rfl ⟨by rw [HTR.out HG.out, Bool.or_true], bl_bx (bl_bx (HB.out.trans (HBS.out.mono HB.out.size)) x4) x5⟩
                  | false =>
                    go_wp2_with (first
                      | (go_at_call 37; refine (HAP.out _ HBS.out).mono ?_; rintro e w' ⟨A5, c5, rfl, hR5, hb, _⟩; have HR5 := Lib.hid hR5; obtain ⟨x4, rfl⟩ := bx_of hb; clear hb hR5)
                      | (go_at_call 67; refine (HRV.out _ A5 c5 x4.below HR5.out).mono ?_; rintro e w' ⟨rfl, hb⟩; obtain ⟨x5, rfl⟩ := bx_of hb; clear hb))
                    exact ⟨⟨q + 1, by omega, by go_num, by rw [HST.out, HG.out], bl_bx (bl_bx (HB.out.trans (HBS.out.mono HB.out.size)) x4) x5⟩, by simp [intOf]; omega⟩
          · obtain rfl : q = j := by omega
            clear hany hB
            go_wp2
            exact bodyPost_ret (v := .bool false) (by simp [results, Tryz.results67, go_sem]) rfl ⟨by rw [HRA.out, HANY.out]; rfl, HB.out⟩
      · go_upto_region 9 with (go_at_call 93; refine (HSM.out _ HB.out).mono ?_; rintro e w' ⟨rfl, hb⟩; obtain ⟨x, rfl⟩ := bx_of hb; clear hb)
        have HBX : Hid (Below w.heap.size w x.w) := bl_bx HB.out x
        go_wp2
        go_loopw [43, 8, 11, 12, 13, 44, 45, 46, 47, 48, 49, 50, 51, 52, 53, 54, 55, 56, 57, 58, 59, 60, 61, 62, 63, 64, 65, 66, 67, 68, 69, 70, 71, 72, 73, 74, 75, 76, 77, 78, 79, 80, 81, 82, 83, 84, 85] (fun i _ _ _ _ _ _ _ _ _ _ _ _ _ _ _ _ _ _ _ _ _ _ _ _ _ _ _ _ _ _ _ _ _ _ _ _ _ _ _ _ _ _ _ _ _ _ wr => ∃ q : Nat, q ≤ j ∧ i = .int .i64 q ∧ (List.range q).any (anG l vs used E) = false ∧ Below w.heap.size w wr) (fun i _ _ _ _ _ _ _ _ _ _ _ _ _ _ _ _ _ _ _ _ _ _ _ _ _ _ _ _ _ _ _ _ _ _ _ _ _ _ _ _ _ _ _ _ _ _ _ => j - (intOf i).toNat)
        case atStart => exact ⟨0, by omega, rfl, by simp, HBX.out⟩
        case round =>
          clear HBX HB
          obtain ⟨q, hq, rfl, hany, hB⟩ := hrel
          have HANY := Lib.hid hany
          have HB := Lib.hid hB
          by_cases hlt : q < j
          · have hlt' : (q : Int) < (j : Int) := by omega
            have hst := range_any_succ (anG l vs used E) q
            rw [hany, Bool.false_or] at hst
            have HST := Lib.hid hst
            have HTR := Lib.hid (range_any_true (anG l vs used E) hlt)
            obtain ⟨g, off, hA, hPP⟩ := HP.out (by omega)
            obtain ⟨gu, ou, hAU, hUU⟩ := HU.out (by omega)
            subst hA hAU
            have hgl2 : g < wr.heap.size := (hPP.bl hB).1
            have hgu2 : gu < wr.heap.size := (hUU.bl hB).1
            obtain ⟨B1, n1, p1, hn1, hR1, a0, a1, a2, a3, a4, a5, a6, a7⟩ := (hPP.bl hB).2 q hlt
            have HPP := Lib.hid (hPP.bl hB)
            have HUU := Lib.hid (hUU.bl hB)
            have HR1 := Lib.hid hR1
            obtain ⟨hw1, hw2⟩ := HW.out q hlt
            have HW2 := Lib.hid hw2
            have HNX : Hid (∀ W, Below wr.heap.size wr W → Calls Tryz.prog 94 #[.slice (some ⟨g, off, none⟩) j c, .slice (some ⟨gu, ou, none⟩) j cu, .int .i64 (q : Int)] W fun r w' => r = .returned (.bool (rNext l used q)) ∧ Below W.heap.size W w') := fun W hW => refNext W g off j c l HLL.out hm (HPP.out.bl hW) gu ou cu used (HUU.out.bl hW) q hlt
            have HFT : Hid (∀ W, Below wr.heap.size wr W → Calls Tryz.prog 95 #[.slice A 8 c8, rcV (l.getD q RC0) B1 n1 p1] W fun r w' => r = .returned (.bool (rFits vs (l.getD q RC0))) ∧ Below W.heap.size W w') := fun W hW => refFits W A c8 vs HL.out ((HR.out.below HB.out).below hW) _ B1 n1 p1 hn1 (HR1.out.bl hW) hw1 HW2.out
            have HAP : Hid (∀ W, Below wr.heap.size wr W → Calls Tryz.prog 37 #[.slice A 8 c8, .slice B1 n1 p1] W (ApPost W (rApply vs (l.getD q RC0).es))) := fun W hW => refApply W A c8 vs HL.out ((HR.out.below HB.out).below hW) B1 n1 p1 _ hn1 (HR1.out.bl hW) HW2.out
            have HUS : Hid (rNext l used q = true → used.getD q true = false) := fun h => by
              unfold rNext at h
              rw [Bool.and_eq_true] at h
              simpa using h.1
            have HG : Hid (anG l vs used E q = (rNext l used q && rFits vs (l.getD q RC0) && E (rAfter vs (l.getD q RC0)) (used.set q true))) := rfl
            have HAF : Hid (rAfter vs (l.getD q RC0) = if (l.getD q RC0).read then vs else rApply vs (l.getD q RC0).es) := rfl
            obtain ⟨rn, hrn⟩ : ∃ rn, rNext l used q = rn := ⟨_, rfl⟩
            obtain ⟨rf, hrf⟩ : ∃ rf, rFits vs (l.getD q RC0) = rf := ⟨_, rfl⟩
            obtain ⟨va, hva⟩ : ∃ va, rAfter vs (l.getD q RC0) = va := ⟨_, rfl⟩
            rw [hrn] at HNX HG HUS
            rw [hrf] at HFT HG
            rw [hva] at HG HAF
            obtain ⟨x, hx⟩ : ∃ x, l.getD q RC0 = x := ⟨_, rfl⟩
            rw [hx] at HFT HAP HAF a0 a1 a3 a4 a5 a6 a7
            obtain ⟨r1, w1, e1, bg1, en1, ed1, ok1, v1⟩ := x
            unfold rcV at HFT
            dsimp only at HFT HAP HAF a0 a1 a2 a3 a4 a5 a6 a7
            clear hPP hUU hR1 hw1 hw2 hrn hrf hva hx hany hB hst
            cases rn with
            | false =>
              go_wp2_with (go_at_call 94; refine (HNX.out _ (Below.refl _ _)).mono ?_; rintro e w' ⟨rfl, hb⟩; obtain ⟨x1, rfl⟩ := bx_of hb; clear hb)
              exact ⟨⟨q + 1, by omega, by go_num, by rw [HST.out, HG.out]; rfl, bl_bx HB.out x1⟩, by simp [intOf]; omega⟩
            | true =>
              cases rf with
              | false =>
                go_wp2_with (first
                  | (go_at_call 94; refine (HNX.out _ (Below.refl _ _)).mono ?_; rintro e w' ⟨rfl, hb⟩; obtain ⟨x1, rfl⟩ := bx_of hb; clear hb)
                  | (go_at_call 95; refine (HFT.out _ (by (repeat (first | with_reducible exact Below.refl _ _ | with_reducible refine bl_alloc ?_ _ | with_reducible refine bl_drew ?_ | with_reducible refine bl_drewN ?_ _ | with_reducible refine bl_bx ?_ _ | with_reducible exact BX.below _ | with_reducible refine bl_set ?_ (by first | (exact Nat.le_refl _) | (simp; done) | (simp; omega)) _ | assumption)))).mono ?_; rintro e w' ⟨rfl, hb⟩; obtain ⟨x2, rfl⟩ := bx_of hb; clear hb))
                exact ⟨⟨q + 1, by omega, by go_num, by rw [HST.out, HG.out]; rfl, bl_bx (bl_bx HB.out x1) x2⟩, by simp [intOf]; omega⟩
              | true =>
                rw [Bool.true_and, Bool.true_and] at HG
                go_upto_region 14 with (first
                  | (go_at_call 94; refine (HNX.out _ (Below.refl _ _)).mono ?_; rintro e w' ⟨rfl, hb⟩; obtain ⟨x1, rfl⟩ := bx_of hb; clear hb)
                  | (go_at_call 95; refine (HFT.out _ (by (repeat (first | with_reducible exact Below.refl _ _ | with_reducible refine bl_alloc ?_ _ | with_reducible refine bl_drew ?_ | with_reducible refine bl_drewN ?_ _ | with_reducible refine bl_bx ?_ _ | with_reducible exact BX.below _ | with_reducible refine bl_set ?_ (by first | (exact Nat.le_refl _) | (simp; done) | (simp; omega)) _ | assumption)))).mono ?_; rintro e w' ⟨rfl, hb⟩; obtain ⟨x2, rfl⟩ := bx_of hb; clear hb)
                  | (at_builtin; refine wpList_append_sl rfl (.tmp 60) (.tmp 61) 115 rfl 4 (.bool false) 1 1 rfl (by omega) Tryz.underlying115 info_bl17 (by omega) (some ⟨x2.w.heap.size, 0, none⟩) 0 0 [] ⟨gu, ou, none⟩ j cu (bools used) rfl rfl (slEmpty x2.w 4) (by rw [length_bools, HUL.out]; omega) (by omega) (BlP.cells (HUU.out.bl (bl_alloc (bl_bx (bl_bx (Below.refl _ _) x1) x2) _)) HUL.out) (bools_one _) (by omega) ?_; intro A3 c3 w3 HO3 HC3 HW3 HG3))
                obtain rfl := HG3.out (by omega)
                have hsz : wr.heap.size ≤ x2.w.heap.size := Nat.le_trans x1.size x2.size
                have HS0 : Hid (Sl 4 1 w3 (some ⟨x2.w.heap.size + 1, 0, none⟩) j c3 (bools used)) := by have := HO3.out; show Sl _ _ _ _ _ _ _; simpa using this
                have HB3 : Hid (Below wr.heap.size wr w3) := bl_ch (bl_alloc (bl_bx (bl_bx (Below.refl _ _) x1) x2) _) HC3.out (fun b hb => by simp [OwnB] at hb; omega)
                have HGM : Hid (wr.heap.size ≤ x2.w.heap.size + 1) := by show _ ≤ _; omega
                obtain ⟨gm, hgm⟩ : ∃ gm, x2.w.heap.size + 1 = gm := ⟨_, rfl⟩
                have e1 : (x2.w.alloc (.cells #[] 4)).heap.size = gm := by rw [← hgm]; simp
                rw [hgm] at HS0 HGM
                try rw [e1]
                have hov : w3.cell? ⟨gm, q, none⟩ = some (.bool (used.getD q true)) := by have := HS0.out.blP.2 q hlt; rwa [Nat.zero_add] at this
                have hfz := HS0.out.unfrozen q
                have hgl3 := HS0.out.lt (b := gm) (by simp [OwnB])
                have HSS : Hid (BlP (w3.setCell ⟨gm, q, none⟩ (.bool true)) gm 0 j (used.set q true)) := by
                  have h1 := HS0.out.set (j := q) (by rw [length_bools, HUL.out]; exact hlt) (.bool true)
                  rw [Nat.zero_add, ← bools_set'] at h1
                  exact h1.blP
                have HBS : Hid (Below wr.heap.size wr (w3.setCell ⟨gm, q, none⟩ (.bool true))) := bl_set HB3.out (p := ⟨gm, q, none⟩) HGM.out _
                clear HO3 HC3 HW3 HG3 HS0 HB3 HNX HFT hgm e1
                go_upto_region 15 with (fail)
                obtain ⟨W4, hW4⟩ : ∃ W4, w3.setCell ⟨gm, q, none⟩ (.bool true) = W4 := ⟨_, rfl⟩
                rw [hW4] at HSS HBS ⊢
                have hgl4 : g < W4.heap.size := Nat.lt_of_lt_of_le hgl2 HBS.out.size
                have b0 : W4.cell? ⟨g, off + q * 8, none⟩ = some (.bool r1) := (HBS.out.cell (p := ⟨g, off + q * 8, none⟩) hgl2).trans a0
                have b2 : W4.cell? ⟨g, off + q * 8 + 2, none⟩ = some (.slice B1 n1 p1) := (HBS.out.cell (p := ⟨g, off + q * 8 + 2, none⟩) hgl2).trans a2
                have HUQ : Hid (used.getD q true = false) := HUS.out (by first | rfl | trivial)
                have HRC : Hid (∀ (W : World) (A' : Option Addr) (c' : Nat) (vs' : List Int), Below W4.heap.size W4 W → vs'.length = 8 → Rd .u64 W A' vs' → Calls Tryz.prog 67 #[.slice A' 8 c', .slice (some ⟨g, off, none⟩) j c, .slice (some ⟨gm, 0, none⟩) j c3, .slice F 8 cf] W fun r w' => r = .returned (.bool (E vs' (used.set q true))) ∧ Below W.heap.size W w') :=
                  fun W A' c' vs' hW hv hr => HE.out W A' c' vs' gm 0 c3 q (HB.out.trans ((HBS.out.trans (hW.mono HBS.out.size)).mono HB.out.size)) hv hr hlt HUQ.out (HSS.out.bl hW)
                clear hW4 hov hfz hgl3 a0 a1 a2 a3 a4 a5 a6 a7 HUS
                cases r1 with
                | true =>
                  have hva : va = vs := HAF.out
                  subst hva
                  obtain ⟨ev, hev⟩ : ∃ ev, E va (used.set q true) = ev := ⟨_, rfl⟩
                  rw [hev] at HG
                  have HRV := Lib.hid (HRC.out W4 A c8 va (Below.refl _ _) HL.out ((HR.out.below HB.out).below HBS.out))
                  rw [hev] at HRV
                  clear hev HRC HAP
                  cases ev with
                  | true =>
                    go_wp2_with (go_at_call 67; refine HRV.out.mono ?_; rintro e w' ⟨rfl, hb⟩; obtain ⟨x5, rfl⟩ := bx_of hb; clear hb)
                    exact bodyPost_ret (v := .bool true) (by simp [results, Tryz.results67, go_sem]) rfl ⟨by rw [HTR.out HG.out, Bool.or_true], bl_bx (HB.out.trans (HBS.out.mono HB.out.size)) x5⟩
                  | false =>
                    go_wp2_with (go_at_call 67; refine HRV.out.mono ?_; rintro e w' ⟨rfl, hb⟩; obtain ⟨x5, rfl⟩ := bx_of hb; clear hb)
                    exact ⟨⟨q + 1, by omega, by go_num, by rw [HST.out, HG.out], bl_bx (HB.out.trans (HBS.out.mono HB.out.size)) x5⟩, by simp [intOf]; omega⟩
                | false =>
                  have hva : va = rApply vs e1 := HAF.out
                  have HVL : Hid (va.length = 8) := by
                    show _ = _
                    rw [hva]; unfold rApply; split
                    · rw [length_rSet]; exact HL.out
                    · exact HL.out
                  rw [← hva] at HAP
                  obtain ⟨ev, hev⟩ : ∃ ev, E va (used.set q true) = ev := ⟨_, rfl⟩
                  rw [hev] at HG
                  have HRV := Lib.hid (fun (W : World) (A' : Option Addr) (c' : Nat) hW hr => HRC.out W A' c' va hW HVL.out hr)
                  rw [hev] at HRV
                  clear hev HRC hva
                  cases ev with
                  | true =>
                    go_wp2_with (first
                      | (go_at_call 37; refine (HAP.out _ HBS.out).mono ?_; rintro e w' ⟨A5, c5, rfl, hR5, hb, _⟩; have HR5 := Lib.hid hR5; obtain ⟨x4, rfl⟩ := bx_of hb; clear hb hR5)
                      | (go_at_call 67; refine (HRV.out _ A5 c5 x4.below HR5.out).mono ?_; rintro e w' ⟨rfl, hb⟩; obtain ⟨x5, rfl⟩ := bx_of hb; clear hb))
                    exact bodyPost_ret (v := .bool true) (by simp [results, Tryz.results67, go_sem]) rfl ⟨by rw [HTR.out HG.out, Bool.or_true], bl_bx (bl_bx (HB.out.trans (HBS.out.mono HB.out.size)) x4) x5⟩
                  | false =>
                    go_wp2_with (first
                      | (go_at_call 37; refine (HAP.out _ HBS.out).mono ?_; rintro e w' ⟨A5, c5, rfl, hR5, hb, _⟩; have HR5 := Lib.hid hR5; obtain ⟨x4, rfl⟩ := bx_of hb; clear hb hR5)
                      | (go_at_call 67; refine (HRV.out _ A5 c5 x4.below HR5.out).mono ?_; rintro e w' ⟨rfl, hb⟩; obtain ⟨x5, rfl⟩ := bx_of hb; clear hb))
                    exact ⟨⟨q + 1, by omega, by go_num, by rw [HST.out, HG.out], bl_bx (bl_bx (HB.out.trans (HBS.out.mono HB.out.size)) x4) x5⟩, by simp [intOf]; omega⟩
          · obtain rfl : q = j := by omega
            clear hany hB
            go_wp2
            exact bodyPost_ret (v := .bool false) (by simp [results, Tryz.results67, go_sem]) rfl ⟨by rw [HRA.out, HANY.out]; rfl, HB.out⟩
/-- How many calls are left. -/
def leftN (used : List Bool) : Nat := (used.filter (fun b => !b)).length
theorem leftN_set (used : List Bool) (i : Nat) (h : used.getD i true = false) : leftN (used.set i true) + 1 = leftN used := by
  unfold leftN
  induction used generalizing i with
  | nil => simp at h
  | cons x l ih =>
    cases i with
    | zero =>
      have : x = false := by simpa using h
      subst this
      simp
    | succ i =>
      have := ih i (by simpa using h)
      rw [List.set_cons_succ, List.filter_cons, List.filter_cons]
      split
      · simp only [List.length_cons]; omega
      · exact this
theorem leftN_zero (used : List Bool) (h : leftN used = 0) (i : Nat) : used.getD i true = true := by
  by_cases hi : i < used.length
  · cases hx : used.getD i true with
    | true => rfl
    | false => have := leftN_set used i hx; omega
  · rw [List.getD_eq_getElem?_getD, List.getElem?_eq_none (by omega)]; rfl
theorem refExplI (N : Nat) : ∀ (w : World) (A : Option Addr) (c8 : Nat) (vs : List Int) (AL : Option Addr) (m c : Nat) (l : List RCall) (AU : Option Addr) (cu : Nat) (used : List Bool) (F : Option Addr) (cf : Nat) (fin : List Int), leftN used = N → vs.length = 8 → Rd .u64 w A vs → l.length = m → m ≤ 1000 →
    (0 < m → ∃ g off, AL = some ⟨g, off, none⟩ ∧ ClP w g off m l) → (∀ k, k < m → (l.getD k RC0).word < 8 ∧ ∀ e ∈ (l.getD k RC0).es, e.word < 8) → used.length = m → (0 < m → ∃ gu ou, AU = some ⟨gu, ou, none⟩ ∧ BlP w gu ou m used) → fin.length = 8 → Rd .u64 w F fin →
    Calls Tryz.prog 67 #[.slice A 8 c8, .slice AL m c, .slice AU m cu, .slice F 8 cf] w fun r w' => r = .returned (.bool (expl l fin N vs used)) ∧ Below w.heap.size w w' := by
  induction N with
  | zero =>
    intro w A c8 vs AL m c l AU cu used F cf fin hN hl hR hll hm hP hw hul hU hf hF
    have := refExplW w A c8 vs hl hR AL m c l hll hm hP hw AU cu used hul hU F cf fin hf hF (fun _ _ => false) (fun W A' c' vs' g2 o2 c2 i _ _ _ _ hx _ => by rw [leftN_zero used hN i] at hx; cases hx)
    refine this.mono ?_
    rintro e w' ⟨rfl, hb⟩
    refine ⟨?_, hb⟩
    have h0 : (List.range m).any (anG l vs used fun _ _ => false) = false := by
      rw [List.any_eq_false]
      intro i _
      simp [anG]
    rw [h0, Bool.or_false]
    rfl
  | succ N ih =>
    intro w A c8 vs AL m c l AU cu used F cf fin hN hl hR hll hm hP hw hul hU hf hF
    have := refExplW w A c8 vs hl hR AL m c l hll hm hP hw AU cu used hul hU F cf fin hf hF (expl l fin N) (fun W A' c' vs' g2 o2 c2 i hB hv hr hi hx hBl =>
      ih W A' c' vs' AL m c l (some ⟨g2, o2, none⟩) c2 (used.set i true) F cf fin (by have := leftN_set used i hx; omega) hv hr hll hm (fun h0 => by
        obtain ⟨g, off, h1, h2⟩ := hP h0
        exact ⟨g, off, h1, h2.bl hB⟩) hw (by rw [List.length_set]; exact hul) (fun _ => ⟨g2, o2, rfl, hBl⟩) hf (hF.below hB))
    refine this.mono ?_
    rintro e w' ⟨rfl, hb⟩
    refine ⟨?_, hb⟩
    rw [← hll]
    rfl
end Go.Proofs.YtjaohgnloddgfaaGreatDoor

namespace Go.Proofs.YtjaohgnloddgfaaGreatDoor
open Go.RowKit
set_option linter.unusedVariables false
set_option linter.unusedSimpArgs false

theorem leftN_all (m : Nat) : leftN (List.replicate m false) = m := by
  unfold leftN
  rw [List.filter_eq_self.2 (by intro a ha; rw [(List.mem_replicate.1 ha).2]; rfl), List.length_replicate]
set_option maxRecDepth 100000 in
set_option maxHeartbeats 1000000 in
theorem refExplains (w : World) (A : Option Addr) (c8 : Nat) (vs : List Int) (hl : vs.length = 8) (hR : Rd .u64 w A vs) (AL : Option Addr) (m c : Nat) (l : List RCall) (hm : m ≤ 1000) (hP : ClV w AL m c l) (hw : ∀ k, k < m → (l.getD k RC0).word < 8 ∧ ∀ e ∈ (l.getD k RC0).es, e.word < 8)
    (F : Option Addr) (cf : Nat) (fin : List Int) (hf : fin.length = 8) (hF : Rd .u64 w F fin) :
    Calls Tryz.prog 30 #[.slice A 8 c8, .slice AL m c, .slice F 8 cf] w fun r w' => r = .returned (.bool (expl l fin m vs (List.replicate m false))) ∧ Below w.heap.size w w' := by
  have hmk := fun W => run_make_bools W m hm
  have HB0 : Hid (Below w.heap.size w (w.alloc (.cells (bools (List.replicate m false)).toArray 4))) := bl_alloc (Below.refl _ _) _
  have HE : Hid (Calls Tryz.prog 67 #[.slice A 8 c8, .slice AL m c, .slice (some ⟨w.heap.size, 0, none⟩) m m, .slice F 8 cf] (w.alloc (.cells (bools (List.replicate m false)).toArray 4)) fun r w' => r = .returned (.bool (expl l fin m vs (List.replicate m false))) ∧ Below (w.alloc (.cells (bools (List.replicate m false)).toArray 4)).heap.size (w.alloc (.cells (bools (List.replicate m false)).toArray 4)) w') :=
    refExplI m _ A c8 vs AL m c l (some ⟨w.heap.size, 0, none⟩) m (List.replicate m false) F cf fin (leftN_all m) hl (hR.below HB0.out) hP.1 hm (fun h0 => (hP.bl HB0.out).ptr h0) hw (by simp) (fun _ => ⟨_, 0, rfl, (slBools (CB.new _ _ _) (by simp) hm).blP⟩) hf (hF.below HB0.out)
  clear hR hP hF hl hf hw
  go_enter Tryz.func30, Tryz.ntmps30
  go_wp2_with (go_at_call 67; refine HE.out.mono ?_; rintro e w' ⟨rfl, hb⟩; obtain ⟨x, rfl⟩ := bx_of hb; clear hb)
  go_ret
  exact ⟨rfl, bl_bx HB0.out x⟩
end Go.Proofs.YtjaohgnloddgfaaGreatDoor
