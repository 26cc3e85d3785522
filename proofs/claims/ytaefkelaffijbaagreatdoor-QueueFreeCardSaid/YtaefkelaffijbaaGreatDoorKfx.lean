/- The reference's search on memory; fill, seen (merged). -/
import Derived.Test.YtaefkelaffijbaaGreatDoorKfk
import Derived.Test.YtaefkelaffijbaaGreatDoorKfv
import Derived.Test.YtaefkelaffijbaaGreatDoorKfi
import Derived.Test.YtaefkelaffijbaaGreatDoorKfu
namespace Go.Proofs.YtaefkelaffijbaaGreatDoor
open Go.RowKit
set_option linter.unusedVariables false
set_option linter.unusedSimpArgs false
/-- Calls as the reference has them, in memory. -/
def RqP (w : World) (g off m : Nat) (l : List RQ) : Prop :=
 g < w.heap.size ∧ ∀ k, k < m → w.cell? ⟨g, off + k * 7, none⟩ = some (.bool (l.getD k RQ0).put) ∧ w.cell? ⟨g, off + k * 7 + 1, none⟩ = some (.int .u64 (l.getD k RQ0).val) ∧ w.cell? ⟨g, off + k * 7 + 2, none⟩ = some (.int .i64 (l.getD k RQ0).bg) ∧ w.cell? ⟨g, off + k * 7 + 3, none⟩ = some (.int .i64 (l.getD k RQ0).en) ∧
  w.cell? ⟨g, off + k * 7 + 4, none⟩ = some (.bool (l.getD k RQ0).ended) ∧ w.cell? ⟨g, off + k * 7 + 5, none⟩ = some (.int .u64 (l.getD k RQ0).got) ∧ w.cell? ⟨g, off + k * 7 + 6, none⟩ = some (.int .i64 (l.getD k RQ0).err)
theorem RqP.bl {w w' : World} {g off m : Nat} {l : List RQ} (h : RqP w g off m l) (hB : Below w.heap.size w w') : RqP w' g off m l := by
 refine ⟨Nat.lt_of_lt_of_le h.1 hB.size, fun k hk => ?_⟩
 have hc : ∀ o, w'.cell? ⟨g, o, none⟩ = w.cell? ⟨g, o, none⟩ := fun o => hB.cell (p := ⟨g, o, none⟩) h.1
 simp only [hc]
 exact h.2 k hk
def BlP (w : World) (g off m : Nat) (bs : List Bool) : Prop := g < w.heap.size ∧ ∀ k, k < m → w.cell? ⟨g, off + k, none⟩ = some (.bool (bs.getD k true))
theorem BlP.bl {w w' : World} {g off m : Nat} {l : List Bool} (h : BlP w g off m l) (hB : Below w.heap.size w w') : BlP w' g off m l :=
 ⟨Nat.lt_of_lt_of_le h.1 hB.size, fun k hk => (hB.cell (p := ⟨g, off + k, none⟩) h.1).trans (h.2 k hk)⟩
def nxF (l : List RQ) (used : List Bool) (i k : Nat) : Bool := !(decide (k ≠ i) && (!used.getD k true && rqBef (l.getD k RQ0) (l.getD i RQ0)))
theorem range_all_succ (f : Nat → Bool) (j : Nat) : (List.range (j + 1)).all f = ((List.range j).all f && f j) := by simp [List.range_succ]
theorem range_all_false (f : Nat → Bool) {j m : Nat} (h : j < m) (hf : f j = false) : (List.range m).all f = false := by
 rw [Bool.eq_false_iff]
 intro ha
 rw [List.all_eq_true] at ha
 rw [ha j (by simpa using h)] at hf; cases hf
set_option maxRecDepth 100000 in
set_option maxHeartbeats 4000000 in
theorem refNext30 (w : World) (g off m c : Nat) (l : List RQ) (hl : l.length = m) (hm : m ≤ 1000) (hP : RqP w g off m l) (gu ou cu : Nat) (used : List Bool) (hU : BlP w gu ou m used) (i : Nat) (hi : i < m) :
 Calls Tryz.prog 63 #[.slice (some ⟨g, off, none⟩) m c, .slice (some ⟨gu, ou, none⟩) m cu, .int .i64 (i : Int)] w fun r w' => r = .returned (.bool (rqNext l used i)) ∧ Below w.heap.size w w' := by
 have HP := Lib.hid hP
 have HU := Lib.hid hU
 have hgl := hP.1
 have hgu := hU.1
 have cu0 := hU.2 i hi
 have hiI : (i : Int) < (m : Int) := by omega
 have HDEF : Hid (rqNext l used i = (!used.getD i true && (List.range m).all (nxF l used i))) := by show _ = _; rw [← hl]; rfl
 obtain ⟨ui, hui⟩ : ∃ b, used.getD i true = b := ⟨_, rfl⟩
 rw [hui] at cu0 HDEF
 cases ui with
 | true =>
   clear hP hU hui
   go_enter Tryz.func63, Tryz.ntmps63
   go_wp2
   exact bodyPost_ret (v := .bool false) (by simp [results, Tryz.results63, go_sem]) rfl ⟨by rw [HDEF.out]; rfl, by (repeat (first | with_reducible (first | exact Below.refl _ _ | refine bl_alloc ?_ _ | refine bl_drew ?_ | refine bl_drewN ?_ _ | refine bl_bx ?_ _ | exact BX.below _ | refine bl_set ?_ (by first | (exact Nat.le_refl _) | (simp; done) | (simp; omega)) _) | assumption))⟩
 | false =>
   clear hP hU hui
   go_enter Tryz.func63, Tryz.ntmps63
   go_wp2
   go_loopw [14, 6, 7, 15, 16, 17, 18, 19, 20, 21, 22, 23, 24, 25, 26, 27, 28, 29, 30, 31, 32, 33, 34, 35, 36, 37, 38, 39, 40, 41, 42, 43, 44, 45, 46, 47] (fun i' _ _ _ _ _ _ _ _ _ _ _ _ _ _ _ _ _ _ _ _ _ _ _ _ _ _ _ _ _ _ _ _ _ _ _ wr => ∃ j : Nat, j ≤ m ∧ i' = .int .i64 j ∧ (List.range j).all (nxF l used i) = true ∧ Below w.heap.size w wr) (fun i' _ _ _ _ _ _ _ _ _ _ _ _ _ _ _ _ _ _ _ _ _ _ _ _ _ _ _ _ _ _ _ _ _ _ _ _ => m - (intOf i').toNat)
   case atStart => exact ⟨0, by omega, rfl, by simp, Below.refl _ _⟩
   case round =>
    obtain ⟨j, hj, rfl, hall, hB⟩ := hrel
    have HALL := Lib.hid hall
    have HB := Lib.hid hB
    by_cases hlt : j < m
    · have hlt' : (j : Int) < (m : Int) := by omega
      have hstep := range_all_succ (nxF l used i) j
      rw [hall, Bool.true_and] at hstep
      have HNF := Lib.hid (range_all_false (nxF l used i) hlt)
      have HST := Lib.hid hstep
      have hgl2 : g < wr.heap.size := Nat.lt_of_lt_of_le hgl hB.size
      have hgu2 : gu < wr.heap.size := Nat.lt_of_lt_of_le hgu hB.size
      have cuj := (HU.out.bl hB).2 j hlt
      obtain ⟨_, _, _, a3, a4, _, _⟩ := (HP.out.bl hB).2 j hlt
      obtain ⟨_, _, b2, _, _, _, _⟩ := (HP.out.bl hB).2 i hi
      have hnx : Hid (nxF l used i j = !(decide (j ≠ i) && (!used.getD j true && ((l.getD j RQ0).ended && decide ((l.getD j RQ0).en < (l.getD i RQ0).bg))))) := rfl
      generalize used.getD j true = uj at cuj hnx
      generalize (l.getD j RQ0).ended = ed at a4 hnx
      generalize (l.getD j RQ0).en = en at a3 hnx
      generalize (l.getD i RQ0).bg = bg at b2 hnx
      clear hall hB hstep
      by_cases hji : j = i
      · have hd : ((j : Int) != (i : Int)) = false := by simp; omega
        go_wp2
        go_quiet (fail)
        go_wp2
        exact ⟨⟨j + 1, by omega, by go_num, by rw [HST.out, hnx.out]; simp [hji], HB.out.trans ((by (repeat (first | with_reducible (first | exact Below.refl _ _ | refine bl_alloc ?_ _ | refine bl_drew ?_ | refine bl_drewN ?_ _ | refine bl_bx ?_ _ | exact BX.below _ | refine bl_set ?_ (by first | (exact Nat.le_refl _) | (simp; done) | (simp; omega)) _) | assumption)) : Below wr.heap.size wr _).mono HB.out.size)⟩, by simp [intOf]; omega⟩
      · have hd : ((j : Int) != (i : Int)) = true := by simp; omega
        cases uj with
        | true =>
          go_wp2
          go_quiet (fail)
          go_wp2
          exact ⟨⟨j + 1, by omega, by go_num, by rw [HST.out, hnx.out]; simp, HB.out.trans ((by (repeat (first | with_reducible (first | exact Below.refl _ _ | refine bl_alloc ?_ _ | refine bl_drew ?_ | refine bl_drewN ?_ _ | refine bl_bx ?_ _ | exact BX.below _ | refine bl_set ?_ (by first | (exact Nat.le_refl _) | (simp; done) | (simp; omega)) _) | assumption)) : Below wr.heap.size wr _).mono HB.out.size)⟩, by simp [intOf]; omega⟩
        | false =>
          cases ed with
          | false =>
            go_wp2
            go_quiet (fail)
            go_wp2
            exact ⟨⟨j + 1, by omega, by go_num, by rw [HST.out, hnx.out]; simp, HB.out.trans ((by (repeat (first | with_reducible (first | exact Below.refl _ _ | refine bl_alloc ?_ _ | refine bl_drew ?_ | refine bl_drewN ?_ _ | refine bl_bx ?_ _ | exact BX.below _ | refine bl_set ?_ (by first | (exact Nat.le_refl _) | (simp; done) | (simp; omega)) _) | assumption)) : Below wr.heap.size wr _).mono HB.out.size)⟩, by simp [intOf]; omega⟩
          | true =>
            by_cases hlb : en < bg
            · have hdc : decide (en < bg) = true := decide_eq_true hlb
              go_wp2
              go_quiet (fail)
              go_wp2
              exact bodyPost_ret (v := .bool false) (by simp [results, Tryz.results63, go_sem]) rfl ⟨by rw [HDEF.out, HNF.out (by rw [hnx.out]; simp [hji, hlb])]; rfl, HB.out.trans ((by (repeat (first | with_reducible (first | exact Below.refl _ _ | refine bl_alloc ?_ _ | refine bl_drew ?_ | refine bl_drewN ?_ _ | refine bl_bx ?_ _ | exact BX.below _ | refine bl_set ?_ (by first | (exact Nat.le_refl _) | (simp; done) | (simp; omega)) _) | assumption)) : Below wr.heap.size wr _).mono HB.out.size)⟩
            · have hdc : decide (en < bg) = false := decide_eq_false hlb
              go_wp2
              go_quiet (fail)
              go_wp2
              exact ⟨⟨j + 1, by omega, by go_num, by rw [HST.out, hnx.out]; simp [hlb], HB.out.trans ((by (repeat (first | with_reducible (first | exact Below.refl _ _ | refine bl_alloc ?_ _ | refine bl_drew ?_ | refine bl_drewN ?_ _ | refine bl_bx ?_ _ | exact BX.below _ | refine bl_set ?_ (by first | (exact Nat.le_refl _) | (simp; done) | (simp; omega)) _) | assumption)) : Below wr.heap.size wr _).mono HB.out.size)⟩, by simp [intOf]; omega⟩
    · obtain rfl : j = m := by omega
      clear hall hB
      go_wp2
      exact bodyPost_ret (v := .bool true) (by simp [results, Tryz.results63, go_sem]) rfl ⟨by rw [HDEF.out, HALL.out]; rfl, HB.out⟩
theorem info_bl30 : (Tryz.prog.info? 4).map (fun i => (i.zero, i.size, i.bytes)) = some (some (.bool false), 1, 1) := by kernel_rfl
theorem bools_one (bs : List Bool) : ∀ u ∈ bools bs, u.oneCell' = true := by
 intro u hu
 obtain ⟨x, _, rfl⟩ := List.mem_map.1 hu
 rfl
theorem length_bools (bs : List Bool) : (bools bs).length = bs.length := by simp [bools]
theorem bools_set' (bs : List Bool) (k : Nat) (b : Bool) : bools (bs.set k b) = (bools bs).set k (.bool b) := by simp [bools, List.map_set]
theorem BlP.cells {w : World} {g off m : Nat} {bs : List Bool} (h : BlP w g off m bs) (hl : bs.length = m) : ∀ (j : Nat) (u : Value), (bools bs)[j]? = some u → w.cell? ((⟨g, off, none⟩ : Addr).add j) = some u := by
 intro j u hu
 have h1 : (⟨g, off, none⟩ : Addr).add j = ⟨g, off + j, none⟩ := by unfold Addr.add; split <;> simp_all
 have hj : j < bs.length := by have := (List.getElem?_eq_some_iff.1 hu).1; rwa [length_bools] at this
 rw [h1, h.2 j (by omega), ← hu]
 simp [bools, hj]
theorem Sl.blP {w : World} {g m c : Nat} {bs : List Bool} (h : Sl 4 1 w (some ⟨g, 0, none⟩) m c (bools bs)) : BlP w g 0 m bs := by
 have hl := h.1
 rw [length_bools] at hl
 refine ⟨h.lt (b := g) (by simp [OwnB]), fun k hk => ?_⟩
 have hkl : k < bs.length := by omega
 obtain ⟨g2, off, hA, _, hc⟩ := h.at_ (j := k) (by rw [length_bools]; exact hkl)
 injection hA with hA
 injection hA with e1 e2
 subst e1 e2
 rw [Nat.zero_add] at hc ⊢
 rw [hc]
 simp [bools, List.getD_eq_getElem?_getD, hkl]
theorem slEmpty (w : World) (e : TypeId) : Sl e 1 (w.alloc (.cells #[] e)) (some ⟨w.heap.size, 0, none⟩) 0 0 [] :=
 ⟨rfl, .inr ⟨_, 0, _, rfl, CB.new _ _ _, Nat.le_refl _, Nat.zero_le _, Nat.le_refl _, rfl⟩⟩
def alF (l : List RQ) (used : List Bool) (i : Nat) : Bool := used.getD i true || !(l.getD i RQ0).ended
def anG (P : Nat) (l : List RQ) (vs : List Int) (used : List Bool) (E : List Int → List Bool → Bool) (i : Nat) : Bool := rqNext l used i && rqFit P vs (l.getD i RQ0) && E (rqAft P vs (l.getD i RQ0)) (used.set i true)
theorem range_any_succ (f : Nat → Bool) (j : Nat) : (List.range (j + 1)).any f = ((List.range j).any f || f j) := by simp [List.range_succ]
theorem range_any_true (f : Nat → Bool) {j m : Nat} (h : j < m) (hf : f j = true) : (List.range m).any f = true := List.any_eq_true.2 ⟨j, by simpa using h, hf⟩
theorem qApp_le {P : Nat} {vs : List Int} {b : Bool} {v : Int} (h : vs.length ≤ P) : (qApp P vs b v).1.length ≤ P := by
 unfold qApp
 cases b with
 | true => by_cases hc : P ≤ vs.length <;> simp [hc] <;> omega
 | false =>
   cases vs with
   | nil => simp
   | cons x r => simp at h ⊢; omega
set_option maxRecDepth 100000 in
set_option maxHeartbeats 8000000 in
theorem refExplW (P : Nat) (hPb : P ≤ 1000) (w : World) (A : Option Addr) (n8 c8 : Nat) (vs : List Int) (hl : vs.length = n8) (hnP : n8 ≤ P) (hnc : n8 ≤ c8) (hR : Rd .u64 w A vs) (AL : Option Addr) (m c : Nat) (l : List RQ) (hll : l.length = m) (hm : m ≤ 1000)
 (hP : 0 < m → ∃ g off, AL = some ⟨g, off, none⟩ ∧ RqP w g off m l)
 (AU : Option Addr) (cu : Nat) (used : List Bool) (hul : used.length = m) (hU : 0 < m → ∃ gu ou, AU = some ⟨gu, ou, none⟩ ∧ BlP w gu ou m used) (F : Option Addr) (nf cf : Nat) (fin : List Int) (hf : fin.length = nf) (hnf : nf ≤ 1000) (hF : Rd .u64 w F fin) (E : List Int → List Bool → Bool)
 (hE : ∀ (W : World) (A' : Option Addr) (n' c' : Nat) (vs' : List Int) (g2 o2 c2 : Nat) (i : Nat), Below w.heap.size w W → vs'.length = n' → n' ≤ P → n' ≤ c' → Rd .u64 W A' vs' → i < m → used.getD i true = false → BlP W g2 o2 m (used.set i true) →
   Calls Tryz.prog 46 #[.slice A' n' c', .int .i64 (P : Int), .slice AL m c, .slice (some ⟨g2, o2, none⟩) m c2, .slice F nf cf] W fun r w' => r = .returned (.bool (E vs' (used.set i true))) ∧ Below W.heap.size W w') :
 Calls Tryz.prog 46 #[.slice A n8 c8, .int .i64 (P : Int), .slice AL m c, .slice AU m cu, .slice F nf cf] w fun r w' => r = .returned (.bool ((rqAll l used && vs == fin) || (List.range m).any (anG P l vs used E))) ∧ Below w.heap.size w w' := by
 have HR := Lib.hid hR
 have HL := Lib.hid (And.intro hl (And.intro hnP hnc))
 have HP := Lib.hid hP
 have HU := Lib.hid hU
 have HUL := Lib.hid hul
 have HLL := Lib.hid hll
 have HE := Lib.hid hE
 have HPB := Lib.hid hPb
 have HSM : Hid (∀ W, Below w.heap.size w W → Calls Tryz.prog 16 #[.slice A n8 c8, .slice F nf cf] W fun r w' => r = .returned (.bool (vs == fin)) ∧ Below W.heap.size W w') := fun W hW => refSame30 W A F n8 c8 nf cf vs fin hl hf (by omega) (hR.below hW) (hF.below hW)
 have HALL : Hid (rqAll l used = (List.range m).all (alF l used)) := by show _ = _; rw [← hll]; rfl
 generalize (vs == fin) = sm at HSM ⊢
 rw [HALL.out]
 clear hR hl hP hU hul hll hE hf hF HALL hnP hnc hnf hPb
 go_enter Tryz.func46, Tryz.ntmps46
 go_wp2
 go_loopw [20, 11, 12, 21, 22, 23, 24, 25, 26, 27, 28, 29, 30, 31, 32, 33, 34, 35, 36, 37, 38] (fun i b _ _ _ _ _ _ _ _ _ _ _ _ _ _ _ _ _ _ _ wr => ∃ j : Nat, j ≤ m ∧ i = .int .i64 j ∧ b = .bool ((List.range j).all (alF l used)) ∧ Below w.heap.size w wr) (fun i b _ _ _ _ _ _ _ _ _ _ _ _ _ _ _ _ _ _ _ _ => m - (intOf i).toNat)
 case atStart => exact ⟨0, by omega, rfl, by simp, Below.refl _ _⟩
 case round =>
  obtain ⟨j, hj, rfl, rfl, hB⟩ := hrel
  have HB := Lib.hid hB
  by_cases hlt : j < m
  · have hlt' : (j : Int) < (m : Int) := by omega
    have HST := Lib.hid (range_all_succ (alF l used) j)
    obtain ⟨g, off, hA, hPP⟩ := HP.out (by omega)
    obtain ⟨gu, ou, hAU, hUU⟩ := HU.out (by omega)
    have hgl2 : g < wr.heap.size := (hPP.bl hB).1
    have hgu2 : gu < wr.heap.size := (hUU.bl hB).1
    have cuj := (hUU.bl hB).2 j hlt
    obtain ⟨_, _, _, _, a4, _, _⟩ := (hPP.bl hB).2 j hlt
    have HAF : Hid (alF l used j = (used.getD j true || !(l.getD j RQ0).ended)) := rfl
    generalize used.getD j true = uj at cuj HAF
    generalize (l.getD j RQ0).ended = ed at a4 HAF
    generalize (List.range j).all (alF l used) = av at HST ⊢
    rw [HAF.out] at HST
    clear hB hPP hUU HAF
    subst hA hAU
    cases av with
    | false =>
      go_wp2
      exact ⟨⟨j + 1, by omega, by go_num, by rw [HST.out]; rfl, HB.out⟩, by simp [intOf]; omega⟩
    | true =>
      cases uj with
      | true =>
        go_wp2
        exact ⟨⟨j + 1, by omega, by go_num, by rw [HST.out]; rfl, HB.out⟩, by simp [intOf]; omega⟩
      | false =>
        go_wp2
        exact ⟨⟨j + 1, by omega, by go_num, by rw [HST.out]; rfl, HB.out⟩, by simp [intOf]; omega⟩
  · obtain rfl : j = m := by omega
    obtain ⟨ra, hra⟩ : ∃ ra, (List.range j).all (alF l used) = ra := ⟨_, rfl⟩
    rw [hra]
    have HRA := Lib.hid hra
    clear hB hra
    go_upto_region 7 with (fail)
    go_cut [44] from 39 to 43 (fun s wx => s = .bool (ra && sm) ∧ Below w.heap.size w wx)
    case first =>
     cases ra with
     | true =>
       go_wp2_with (go_at_call 16; refine (HSM.out _ HB.out).mono ?_; rintro e w' ⟨rfl, hb⟩; obtain ⟨x, rfl⟩ := bx_of hb; clear hb)
       go_meet
       exact ⟨rfl, bl_bx HB.out x⟩
     | false =>
       go_wp2
       go_meet
       exact ⟨rfl, HB.out⟩
    case rest =>
    obtain ⟨rfl, hBc⟩ := hcut
    have HBX := Lib.hid hBc
    clear hBc HB
    obtain ⟨rs, hrs⟩ : ∃ rs, (ra && sm) = rs := ⟨_, rfl⟩
    rw [hrs]
    have HRS : Hid (((List.range j).all (alF l used) && sm) = rs) := by show _ = _; rw [HRA.out]; exact hrs
    clear hrs HRA
    cases rs with
    | true =>
      go_wp2
      exact bodyPost_ret (v := .bool true) (by simp [results, Tryz.results46, go_sem]) rfl ⟨by rw [HRS.out]; rfl, HBX.out⟩
    | false =>
      go_wp2
      go_loopw [47, 10, 13, 14, 15, 16, 17, 48, 49, 50, 51, 52, 53, 54, 55, 56, 57, 58, 59, 60, 61, 62, 63, 64, 65, 66, 67, 68, 69, 70, 71, 72, 73, 74, 75, 76, 77, 78, 79, 80, 81, 82, 83, 84, 85, 86, 87, 88, 89, 90, 91, 92, 93, 94, 95, 96, 97, 98, 99, 100, 101, 102, 103, 104, 105, 106, 107] (fun i _ _ _ _ _ _ _ _ _ _ _ _ _ _ _ _ _ _ _ _ _ _ _ _ _ _ _ _ _ _ _ _ _ _ _ _ _ _ _ _ _ _ _ _ _ _ _ _ _ _ _ _ _ _ _ _ _ _ _ _ _ _ _ _ _ _ wr => ∃ q : Nat, q ≤ j ∧ i = .int .i64 q ∧ (List.range q).any (anG P l vs used E) = false ∧ Below w.heap.size w wr) (fun i _ _ _ _ _ _ _ _ _ _ _ _ _ _ _ _ _ _ _ _ _ _ _ _ _ _ _ _ _ _ _ _ _ _ _ _ _ _ _ _ _ _ _ _ _ _ _ _ _ _ _ _ _ _ _ _ _ _ _ _ _ _ _ _ _ _ _ => j - (intOf i).toNat)
      case atStart => exact ⟨0, by omega, rfl, by simp, HBX.out⟩
      case round =>
       clear HBX
       obtain ⟨q, hq, rfl, hany, hB⟩ := hrel
       have HANY := Lib.hid hany
       have HB := Lib.hid hB
       by_cases hlt : q < j
       · have hlt' : (q : Int) < (j : Int) := by omega
         have hst := range_any_succ (anG P l vs used E) q
         rw [hany, Bool.false_or] at hst
         have HST := Lib.hid hst
         have HTR := Lib.hid (range_any_true (anG P l vs used E) hlt)
         obtain ⟨g, off, hA, hPP⟩ := HP.out (by omega)
         obtain ⟨gu, ou, hAU, hUU⟩ := HU.out (by omega)
         subst hA hAU
         have hgl2 : g < wr.heap.size := (hPP.bl hB).1
         have hgu2 : gu < wr.heap.size := (hUU.bl hB).1
         obtain ⟨a0, a1, _, _, a4, a5, a6⟩ := (hPP.bl hB).2 q hlt
         have HPP := Lib.hid (hPP.bl hB)
         have HUU := Lib.hid (hUU.bl hB)
         have HNX : Hid (∀ W, Below wr.heap.size wr W → Calls Tryz.prog 63 #[.slice (some ⟨g, off, none⟩) j c, .slice (some ⟨gu, ou, none⟩) j cu, .int .i64 (q : Int)] W fun r w' => r = .returned (.bool (rqNext l used q)) ∧ Below W.heap.size W w') := fun W hW => refNext30 W g off j c l HLL.out hm (HPP.out.bl hW) gu ou cu used (HUU.out.bl hW) q hlt
         have HUS : Hid (rqNext l used q = true → used.getD q true = false) := fun h => by
          unfold rqNext at h
          rw [Bool.and_eq_true] at h
          simpa using h.1
         have HG : Hid (anG P l vs used E q = (rqNext l used q && rqFit P vs (l.getD q RQ0) && E (rqAft P vs (l.getD q RQ0)) (used.set q true))) := rfl
         have HFT : Hid (rqFit P vs (l.getD q RQ0) = (!(l.getD q RQ0).ended || ((qApp P vs (l.getD q RQ0).put (l.getD q RQ0).val).2.1 == (l.getD q RQ0).got && (qApp P vs (l.getD q RQ0).put (l.getD q RQ0).val).2.2 == (l.getD q RQ0).err))) := rfl
         have HAF : Hid (rqAft P vs (l.getD q RQ0) = (qApp P vs (l.getD q RQ0).put (l.getD q RQ0).val).1) := rfl
         generalize (l.getD q RQ0).put = put at a0 HFT HAF
         generalize (l.getD q RQ0).val = val at a1 HFT HAF
         generalize (l.getD q RQ0).ended = ed at a4 HFT
         generalize (l.getD q RQ0).got = got at a5 HFT
         generalize (l.getD q RQ0).err = err at a6 HFT
         have HAP : Hid (∀ W, Below wr.heap.size wr W → Calls Tryz.prog 23 #[.slice A n8 c8, .int .i64 (P : Int), .bool put, .int .u64 val] W (ApP30 A W (qApp P vs put val))) := fun W hW => refApply30 W A n8 c8 vs HL.out.1 (Nat.le_trans HL.out.2.1 HPB.out) HL.out.2.2 ((HR.out.below HB.out).below hW) P HPB.out put val
         have HQL : Hid ((qApp P vs put val).1.length ≤ P) := qApp_le (by rw [HL.out.1]; exact HL.out.2.1)
         generalize qApp P vs put val = ap at HFT HAF HAP HQL
         obtain ⟨nq, gv, ge⟩ := ap
         dsimp only at HFT HAF HQL
         rw [HFT.out, HAF.out] at HG
         generalize rqNext l used q = rn at HNX HG HUS
         clear hPP hUU hany hB hst HFT HAF
         cases rn with
         | false =>
           go_wp2_with (go_at_call 63; refine (HNX.out _ (Below.refl _ _)).mono ?_; rintro e w' ⟨rfl, hb⟩; obtain ⟨x1, rfl⟩ := bx_of hb; clear hb)
           exact ⟨⟨q + 1, by omega, by go_num, by rw [HST.out, HG.out]; rfl, bl_bx HB.out x1⟩, by simp [intOf]; omega⟩
         | true =>
           rw [Bool.true_and] at HG
           go_upto_region 13 with (go_at_call 63; refine (HNX.out _ (Below.refl _ _)).mono ?_; rintro e w' ⟨rfl, hb⟩; obtain ⟨x1, rfl⟩ := bx_of hb; clear hb)
           have b0 : x1.w.cell? ⟨g, off + q * 7, none⟩ = some (.bool put) := (x1.below.cell (p := ⟨g, off + q * 7, none⟩) hgl2).trans a0
           have b1 : x1.w.cell? ⟨g, off + q * 7 + 1, none⟩ = some (.int .u64 val) := (x1.below.cell (p := ⟨g, off + q * 7 + 1, none⟩) hgl2).trans a1
           have hgl3 : g < x1.w.heap.size := Nat.lt_of_lt_of_le hgl2 x1.size
           go_cut [14, 15, 16] from 55 to 71 (fun s14 s15 s16 wx => ∃ A4 m4 c4, s14 = .slice A4 m4 c4 ∧ s15 = .int .u64 gv ∧ s16 = .int .i64 ge ∧ nq.length = m4 ∧ m4 ≤ c4 ∧ Rd .u64 wx A4 nq ∧ Below wr.heap.size wr wx)
           case first =>
            go_region_held3 (fun w' => w'.cell? ⟨g, off + q * 7, none⟩ = some (.bool put) ∧ w'.cell? ⟨g, off + q * 7 + 1, none⟩ = some (.int .u64 val) ∧ g < w'.heap.size)
             ((refine ⟨?_, ?_, ?_⟩ <;> first | assumption | (go_simp; done) | (simp; omega)))
             (first | (go_at_call 23; (with_reducible refine (HAP.out _ (by (repeat (first | with_reducible (first | exact Below.refl _ _ | refine bl_alloc ?_ _ | refine bl_drew ?_ | refine bl_drewN ?_ _ | refine bl_bx ?_ _ | exact BX.below _ | refine bl_set ?_ (by first | (exact Nat.le_refl _) | (simp; done) | (simp; omega)) _) | assumption)))).mono ?_); rintro e w4 ⟨A4, m4, c4, rfl, hl4, hmc4, hr4, hb4, _⟩; have HA4 := Lib.hid (And.intro hl4 (And.intro hmc4 hr4)); have HBW4 : Hid (Below x1.w.heap.size x1.w w4) := (by show Below _ _ _; exact (by (repeat (first | with_reducible (first | exact Below.refl _ _ | refine bl_alloc ?_ _ | refine bl_drew ?_ | refine bl_drewN ?_ _ | refine bl_bx ?_ _ | exact BX.below _ | refine bl_set ?_ (by first | (exact Nat.le_refl _) | (simp; done) | (simp; omega)) _) | assumption)) : Below x1.w.heap.size x1.w _).trans (hb4.mono (by first | (simp; done) | (simp; omega) | omega))); obtain ⟨y, rfl⟩ := bx_of hb4; clear hl4 hmc4 hr4 hb4))
            go_wp2
            go_meet
            exact ⟨A4, m4, c4, rfl, rfl, rfl, HA4.out.1, HA4.out.2.1, HA4.out.2.2, x1.below.trans (HBW4.out.mono x1.size)⟩
           case rest =>
           obtain ⟨A4, m4, c4, rfl, rfl, rfl, hl4, hmc4, hr4, hbc⟩ := hcut
           obtain ⟨wd, rfl⟩ : ∃ wd, wd = wc := ⟨wc, rfl⟩
           have HBC := Lib.hid hbc
           have HA4 := Lib.hid (And.intro hl4 (And.intro hmc4 hr4))
           have hgl4 : g < wd.heap.size := Nat.lt_of_lt_of_le hgl2 hbc.size
           have d4 : wd.cell? ⟨g, off + q * 7 + 4, none⟩ = some (.bool ed) := (hbc.cell (p := ⟨g, off + q * 7 + 4, none⟩) hgl2).trans a4
           have d5 : wd.cell? ⟨g, off + q * 7 + 5, none⟩ = some (.int .u64 got) := (hbc.cell (p := ⟨g, off + q * 7 + 5, none⟩) hgl2).trans a5
           have d6 : wd.cell? ⟨g, off + q * 7 + 6, none⟩ = some (.int .i64 err) := (hbc.cell (p := ⟨g, off + q * 7 + 6, none⟩) hgl2).trans a6
           clear a0 a1 a4 a5 a6 b0 b1 hgl3 hl4 hmc4 hr4 hbc HNX HAP
           go_upto_region 14 with (fail)
           go_cut [94] from 72 to 93 (fun s wx => s = .bool (!(!ed || (gv == got && ge == err))) ∧ wd = wx)
           case first =>
            cases ed with
            | false =>
              go_wp2
              go_meet
              exact ⟨rfl, rfl⟩
            | true =>
              by_cases h1 : gv = got
              · by_cases h2 : ge = err
                · have h1' : (gv != got) = false := by simp [h1]
                  have h2' : (ge != err) = false := by simp [h2]
                  go_wp2
                  go_meet
                  exact ⟨by simp [h1, h2], rfl⟩
                · have h1' : (gv != got) = false := by simp [h1]
                  have h2' : (ge != err) = true := by simp [h2]
                  go_wp2
                  go_meet
                  exact ⟨by simp [h1, h2], rfl⟩
              · have h1' : (gv != got) = true := by simp [h1]
                go_wp2
                go_meet
                exact ⟨by simp [h1], rfl⟩
           case rest =>
           obtain ⟨rfl, rfl⟩ := hcut
           generalize (!ed || (gv == got && ge == err)) = rf at HG ⊢
           clear d4 d5 d6
           cases rf with
           | false =>
             go_wp2
             exact ⟨⟨q + 1, by omega, by go_num, by rw [HST.out, HG.out]; rfl, HB.out.trans (HBC.out.mono HB.out.size)⟩, by simp [intOf]; omega⟩
           | true =>
             rw [Bool.true_and] at HG
             go_upto_region 16 with (first
              | (at_builtin; refine wpList_append_sl rfl (.tmp 95) (.tmp 96) 110 rfl 4 (.bool false) 1 1 rfl (by omega) Tryz.underlying110 info_bl30 (by omega) (some ⟨wd.heap.size, 0, none⟩) 0 0 [] ⟨gu, ou, none⟩ j cu (bools used) rfl rfl (slEmpty wd 4) (by rw [length_bools, HUL.out]; omega) (by omega) (BlP.cells (HUU.out.bl (bl_alloc HBC.out _)) HUL.out) (bools_one _) (by omega) ?_; intro A3 c3 w3 HO3 HC3 HW3 HG3))
             obtain rfl := HG3.out (by omega)
             have hsz : wr.heap.size ≤ wd.heap.size := HBC.out.size
             have HS0 : Hid (Sl 4 1 w3 (some ⟨wd.heap.size + 1, 0, none⟩) j c3 (bools used)) := by have := HO3.out; show Sl _ _ _ _ _ _ _; simpa using this
             have HB30 : Hid (Below wd.heap.size wd w3) := bl_ch (bl_alloc (Below.refl _ _) _) HC3.out (fun b hb => by simp [OwnB] at hb; omega)
             have HB3 : Hid (Below wr.heap.size wr w3) := HBC.out.trans (HB30.out.mono HBC.out.size)
             have HGM : Hid (wd.heap.size ≤ wd.heap.size + 1) := Nat.le_succ _
             obtain ⟨gm, hgm⟩ : ∃ gm, wd.heap.size + 1 = gm := ⟨_, rfl⟩
             have e1 : (wd.alloc (.cells #[] 4)).heap.size = gm := by rw [← hgm]; simp
             rw [hgm] at HS0 HGM
             try rw [e1]
             have hov : w3.cell? ⟨gm, q, none⟩ = some (.bool (used.getD q true)) := by have := HS0.out.blP.2 q hlt; rwa [Nat.zero_add] at this
             have hfz := HS0.out.unfrozen q
             have hgl5 := HS0.out.lt (b := gm) (by simp [OwnB])
             have HSS : Hid (BlP (w3.setCell ⟨gm, q, none⟩ (.bool true)) gm 0 j (used.set q true)) := by
              have h1 := HS0.out.set (j := q) (by rw [length_bools, HUL.out]; exact hlt) (.bool true)
              rw [Nat.zero_add, ← bools_set'] at h1
              exact h1.blP
             have HBS0 : Hid (Below wd.heap.size wd (w3.setCell ⟨gm, q, none⟩ (.bool true))) := bl_set HB30.out (p := ⟨gm, q, none⟩) HGM.out _
             have HBS : Hid (Below wr.heap.size wr (w3.setCell ⟨gm, q, none⟩ (.bool true))) := HBC.out.trans (HBS0.out.mono HBC.out.size)
             clear HO3 HC3 HW3 HG3 HS0 HB3 HB30 hgm e1
             go_upto_region 17 with (fail)
             obtain ⟨W4, hW4⟩ : ∃ W4, w3.setCell ⟨gm, q, none⟩ (.bool true) = W4 := ⟨_, rfl⟩
             rw [hW4] at HSS HBS HBS0 ⊢
             have HRC : Hid (Calls Tryz.prog 46 #[.slice A4 m4 c4, .int .i64 (P : Int), .slice (some ⟨g, off, none⟩) j c, .slice (some ⟨gm, 0, none⟩) j c3, .slice F nf cf] W4 fun r w' => r = .returned (.bool (E nq (used.set q true))) ∧ Below W4.heap.size W4 w') :=
              HE.out W4 A4 m4 c4 nq gm 0 c3 q (HB.out.trans (HBS.out.mono HB.out.size)) HA4.out.1 (by rw [← HA4.out.1]; exact HQL.out) HA4.out.2.1 (HA4.out.2.2.below HBS0.out) hlt (HUS.out (by first | rfl | trivial)) HSS.out
             generalize E nq (used.set q true) = ev at HRC HG
             clear hW4 hov hfz hgl5 HUS
             cases ev with
             | true =>
               go_wp2_with (go_at_call 46; refine HRC.out.mono ?_; rintro e w' ⟨rfl, hb⟩; obtain ⟨x5, rfl⟩ := bx_of hb; clear hb)
               exact bodyPost_ret (v := .bool true) (by simp [results, Tryz.results46, go_sem]) rfl ⟨by rw [HTR.out HG.out, Bool.or_true], bl_bx (HB.out.trans (HBS.out.mono HB.out.size)) x5⟩
             | false =>
               go_wp2_with (go_at_call 46; refine HRC.out.mono ?_; rintro e w' ⟨rfl, hb⟩; obtain ⟨x5, rfl⟩ := bx_of hb; clear hb)
               exact ⟨⟨q + 1, by omega, by go_num, by rw [HST.out, HG.out], bl_bx (HB.out.trans (HBS.out.mono HB.out.size)) x5⟩, by simp [intOf]; omega⟩
       · obtain rfl : q = j := by omega
         have HB := Lib.hid hB
         have HANY := Lib.hid hany
         clear hany hB
         go_wp2
         exact bodyPost_ret (v := .bool false) (by simp [results, Tryz.results46, go_sem]) rfl ⟨by rw [HRS.out, HANY.out]; rfl, HB.out⟩
/-- How many calls are left. -/
def leftN (used : List Bool) : Nat := (used.filter (fun b => !b)).length
theorem leftN_set (used : List Bool) (i : Nat) (h : used.getD i true = false) : leftN (used.set i true) + 1 = leftN used := by
 unfold leftN
 induction used generalizing i with
 | nil => simp at h
 | cons x l ih =>
   cases i with
   | zero =>
     have : x = false := by simpa using h
     subst this
     simp
   | succ i =>
     have := ih i (by simpa using h)
     rw [List.set_cons_succ, List.filter_cons, List.filter_cons]
     split
     · simp only [List.length_cons]; omega
     · exact this
theorem leftN_zero (used : List Bool) (h : leftN used = 0) (i : Nat) : used.getD i true = true := by
 by_cases hi : i < used.length
 · cases hx : used.getD i true with
   | true => rfl
   | false => have := leftN_set used i hx; omega
 · rw [List.getD_eq_getElem?_getD, List.getElem?_eq_none (by omega)]; rfl
theorem leftN_all (m : Nat) : leftN (List.replicate m false) = m := by
 unfold leftN
 rw [List.filter_eq_self.2 (by intro a ha; rw [(List.mem_replicate.1 ha).2]; rfl), List.length_replicate]
theorem refExplI30 (P : Nat) (hPb : P ≤ 1000) (m c : Nat) (AL : Option Addr) (l : List RQ) (hll : l.length = m) (hm : m ≤ 1000) (F : Option Addr) (nf cf : Nat) (fin : List Int) (hf : fin.length = nf) (hnf : nf ≤ 1000) (N : Nat) : ∀ (w : World) (A : Option Addr) (n8 c8 : Nat) (vs : List Int) (AU : Option Addr) (cu : Nat) (used : List Bool), leftN used = N → vs.length = n8 → n8 ≤ P → n8 ≤ c8 → Rd .u64 w A vs →
 (0 < m → ∃ g off, AL = some ⟨g, off, none⟩ ∧ RqP w g off m l) → used.length = m → (0 < m → ∃ gu ou, AU = some ⟨gu, ou, none⟩ ∧ BlP w gu ou m used) → Rd .u64 w F fin →
 Calls Tryz.prog 46 #[.slice A n8 c8, .int .i64 (P : Int), .slice AL m c, .slice AU m cu, .slice F nf cf] w fun r w' => r = .returned (.bool (exq P l fin N vs used)) ∧ Below w.heap.size w w' := by
 induction N with
 | zero =>
   intro w A n8 c8 vs AU cu used hN hl hnP hnc hR hP hul hU hF
   refine (refExplW P hPb w A n8 c8 vs hl hnP hnc hR AL m c l hll hm hP AU cu used hul hU F nf cf fin hf hnf hF (fun _ _ => false) (fun W A' n' c' vs' g2 o2 c2 i _ _ _ _ _ _ hx _ => by rw [leftN_zero used hN i] at hx; cases hx)).mono ?_
   rintro e w' ⟨rfl, hb⟩
   refine ⟨?_, hb⟩
   have h0 : (List.range m).any (anG P l vs used fun _ _ => false) = false := by
    rw [List.any_eq_false]
    intro i _
    simp [anG]
   rw [h0, Bool.or_false]
   rfl
 | succ N ih =>
   intro w A n8 c8 vs AU cu used hN hl hnP hnc hR hP hul hU hF
   refine (refExplW P hPb w A n8 c8 vs hl hnP hnc hR AL m c l hll hm hP AU cu used hul hU F nf cf fin hf hnf hF (exq P l fin N) (fun W A' n' c' vs' g2 o2 c2 i hB hv hn' hc' hr hi hx hBl =>
    ih W A' n' c' vs' (some ⟨g2, o2, none⟩) c2 (used.set i true) (by have := leftN_set used i hx; omega) hv hn' hc' hr (fun h0 => by
     obtain ⟨g, off, h1, h2⟩ := hP h0
     exact ⟨g, off, h1, h2.bl hB⟩) (by rw [List.length_set]; exact hul) (fun _ => ⟨g2, o2, rfl, hBl⟩) (hF.below hB))).mono ?_
   rintro e w' ⟨rfl, hb⟩
   refine ⟨?_, hb⟩
   rw [← hll]
   rfl
set_option maxRecDepth 100000 in
set_option maxHeartbeats 1000000 in
theorem refExplains30 (w : World) (P : Nat) (hPb : P ≤ 1000) (A : Option Addr) (n8 c8 : Nat) (vs : List Int) (hl : vs.length = n8) (hnP : n8 ≤ P) (hnc : n8 ≤ c8) (hR : Rd .u64 w A vs) (AL : Option Addr) (m c : Nat) (l : List RQ) (hll : l.length = m) (hm : m ≤ 1000) (hP : 0 < m → ∃ g off, AL = some ⟨g, off, none⟩ ∧ RqP w g off m l)
 (F : Option Addr) (nf cf : Nat) (fin : List Int) (hf : fin.length = nf) (hnf : nf ≤ 1000) (hF : Rd .u64 w F fin) :
 Calls Tryz.prog 27 #[.slice A n8 c8, .int .i64 (P : Int), .slice AL m c, .slice F nf cf] w fun r w' => r = .returned (.bool (exq P l fin m vs (List.replicate m false))) ∧ Below w.heap.size w w' := by
 have hmk := fun W => run_make_bools W m hm
 have HB0 : Hid (Below w.heap.size w (w.alloc (.cells (bools (List.replicate m false)).toArray 4))) := bl_alloc (Below.refl _ _) _
 have HE : Hid (Calls Tryz.prog 46 #[.slice A n8 c8, .int .i64 (P : Int), .slice AL m c, .slice (some ⟨w.heap.size, 0, none⟩) m m, .slice F nf cf] (w.alloc (.cells (bools (List.replicate m false)).toArray 4)) fun r w' => r = .returned (.bool (exq P l fin m vs (List.replicate m false))) ∧ Below (w.alloc (.cells (bools (List.replicate m false)).toArray 4)).heap.size (w.alloc (.cells (bools (List.replicate m false)).toArray 4)) w') :=
  refExplI30 P hPb m c AL l hll hm F nf cf fin hf hnf m _ A n8 c8 vs (some ⟨w.heap.size, 0, none⟩) m (List.replicate m false) (leftN_all m) hl hnP hnc (hR.below HB0.out) (fun h0 => by
   obtain ⟨g, off, h1, h2⟩ := hP h0
   exact ⟨g, off, h1, h2.bl HB0.out⟩) (by simp) (fun _ => ⟨_, 0, rfl, (slBools (CB.new _ _ _) (by simp) hm).blP⟩) (hF.below HB0.out)
 clear hR hP hF hl hll hf
 go_enter Tryz.func27, Tryz.ntmps27
 go_wp2_with (go_at_call 46; refine HE.out.mono ?_; rintro e w' ⟨rfl, hb⟩; obtain ⟨x, rfl⟩ := bx_of hb; clear hb)
 go_ret
 exact ⟨rfl, bl_bx HB0.out x⟩
def rqC (t : RQ) : List Value := [.bool t.put, .int .u64 t.val, .int .i64 t.bg, .int .i64 t.en, .bool t.ended, .int .u64 t.got, .int .i64 t.err]
def rqCs (ts : List RQ) : List Value := ts.flatMap rqC
theorem length_rqCs (ts : List RQ) : (rqCs ts).length = ts.length * 7 := by
 induction ts with
 | nil => rfl
 | cons e ts ih => rw [rqCs, List.flatMap_cons, List.length_append]; change _ + (rqCs ts).length = _; rw [ih]; simp [rqC]; omega
theorem rqCs_get (ts : List RQ) : ∀ k, k < ts.length → ∀ r, r < 7 → (rqCs ts)[k * 7 + r]? = (rqC (ts.getD k RQ0))[r]? := by
 induction ts with
 | nil => intro k h; simp at h
 | cons p ts ih =>
   intro k h r hr
   cases k with
   | zero =>
     show (rqC p ++ rqCs ts)[0 * 7 + r]? = _
     rw [List.getElem?_append_left (by simp [rqC]; omega)]
     simp
   | succ k =>
     show (rqC p ++ rqCs ts)[(k + 1) * 7 + r]? = _
     rw [List.getElem?_append_right (by simp [rqC]; omega), show (k + 1) * 7 + r - (rqC p).length = k * 7 + r by simp [rqC]; omega, ih k (by simpa using h) r hr]
     simp
theorem rqCs_snoc (ts : List RQ) {j : Nat} (hj : j < ts.length) : rqCs (ts.take (j + 1)) = rqCs (ts.take j) ++ rqC (ts.getD j RQ0) := by
 unfold rqCs
 rw [List.take_succ_eq_append_getElem hj, List.getD_eq_getElem?_getD, List.getElem?_eq_getElem hj, List.flatMap_append]
 simp only [List.flatMap_cons, List.flatMap_nil, List.append_nil, Option.getD_some]
theorem Sl.rqP {w : World} {A : Option Addr} {m c : Nat} {ts : List RQ} (h : Sl 36 7 w A m c (rqCs ts)) (h0 : 0 < m) : ∃ g off, A = some ⟨g, off, none⟩ ∧ RqP w g off m ts := by
 have hl := h.1
 have hlen := length_rqCs ts
 have hn : ts.length = m := by omega
 obtain ⟨g, off, hA, hg, _⟩ := h.at_ (j := 0) (by omega)
 refine ⟨g, off, hA, hg, fun k hk => ?_⟩
 have hc : ∀ r, r < 7 → w.cell? ⟨g, off + k * 7 + r, none⟩ = (rqC (ts.getD k RQ0))[r]? := fun r hr => by
  obtain ⟨g2, off2, hA2, _, c2⟩ := h.at_ (j := k * 7 + r) (by omega)
  rw [hA] at hA2
  injection hA2 with hA2
  injection hA2 with x1 x2
  subst x1 x2
  rw [← rqCs_get ts k (by omega) r hr, Nat.add_assoc, c2, List.getElem?_eq_getElem]
 exact ⟨hc 0 (by omega), hc 1 (by omega), hc 2 (by omega), hc 3 (by omega), hc 4 (by omega), hc 5 (by omega), hc 6 (by omega)⟩
theorem info_rcall30 : (Tryz.prog.info? 36).map (fun i => (i.zero, i.size, i.bytes)) = some (some (.agg #[.bool false, .int .u64 0, .int .i64 0, .int .i64 0, .bool false, .int .u64 0, .int .i64 0]), 7, 56) := by kernel_rfl
theorem cells_any30 (w : World) (e : TypeId) (cs : Array Value) : ∀ (j : Nat) (u : Value), cs[j]? = some u → (w.alloc (.cells cs e)).cell? ((⟨w.heap.size, 0, none⟩ : Addr).add j) = some u := by
 intro j u hu
 have h1 : (⟨w.heap.size, 0, none⟩ : Addr).add j = ⟨w.heap.size, j, none⟩ := by unfold Addr.add; split <;> simp_all
 rw [h1, (CB.new w e cs).cell j]
 exact hu
def SnP (n : Nat) (w : World) (ts : List RQ) (e : Ending) (w' : World) : Prop := ∃ A c, e = .returned (.slice A n c) ∧ (0 < n → ∃ g off, A = some ⟨g, off, none⟩ ∧ RqP w' g off n ts) ∧ Below w.heap.size w w'
set_option maxRecDepth 100000 in
set_option maxHeartbeats 4000000 in
theorem fseen30 (w : World) (As : Option Addr) (M cA : Nat) (ts : List RQ) (hts : ts.length = M) (hM : M ≤ 1000) (hS : MaQ w As M ts) : Calls Tryz.prog 28 #[.slice As M cA] w (SnP M w ts) := by
 have HS := Lib.hid hS
 have HTS := Lib.hid hts
 clear hS hts
 go_enter Tryz.func28, Tryz.ntmps28
 go_wp2
 go_loopw [8, 3, 5, 9, 10, 11, 12, 13, 14, 15, 16, 17, 18, 19, 20, 21, 22, 23, 24, 25, 26, 27, 28, 29, 30, 31, 32, 33, 34, 35, 36, 37, 38] (fun i s _ _ _ _ _ _ _ _ _ _ _ _ _ _ _ _ _ _ _ _ _ _ _ _ _ _ _ _ _ _ _ wr => ∃ (j : Nat) (A' : Option Addr) (c' : Nat), j ≤ M ∧ i = .int .i64 j ∧ s = .slice A' j c' ∧ Sl 36 7 wr A' j c' (rqCs (ts.take j)) ∧ Below w.heap.size w wr ∧ ∀ b, OwnB A' b → w.heap.size ≤ b) (fun i s _ _ _ _ _ _ _ _ _ _ _ _ _ _ _ _ _ _ _ _ _ _ _ _ _ _ _ _ _ _ _ _ => M - (intOf i).toNat)
 case atStart => exact ⟨0, none, 0, by omega, rfl, rfl, Sl.nil, Below.refl _ _, by simp [OwnB]⟩
 case round =>
  obtain ⟨j, A', c', hj, rfl, rfl, hSl, hB, hO⟩ := hrel
  have HSl := Lib.hid hSl
  have HB := Lib.hid hB
  have HO := Lib.hid hO
  by_cases hlt : j < M
  · have hlt' : (j : Int) < (M : Int) := by omega
    obtain ⟨h7, gS, oS, g, a, hAs, hgS, hcS, hCB⟩ := (HS.out.bl hB) j hlt
    have HSN := Lib.hid (rqCs_snoc ts (j := j) (by rw [HTS.out]; exact hlt))
    generalize ts.getD j RQ0 = t at hCB h7 HSN
    obtain ⟨put, val, bg, en, ed, got, err⟩ := t
    dsimp only at hCB h7
    have h7' : (err == 7) = false := by simpa using h7
    have c1 := hCB.cell 1
    have c2 := hCB.cell 2
    have c3 := hCB.cell 3
    have c4 := hCB.cell 4
    have c5 := hCB.cell 5
    have c6 := hCB.cell 6
    have c7 := hCB.cell 7
    have c8 := hCB.cell 8
    have c9 := hCB.cell 9
    have cl := hCB.lt
    subst hAs
    clear hSl hB hO hCB h7
    go_wp2_with (at_builtin; refine wpList_append_sl rfl (.tmp 31) (.tmp 36) 66 rfl 36 (.agg #[.bool false, .int .u64 0, .int .i64 0, .int .i64 0, .bool false, .int .u64 0, .int .i64 0]) 7 56 rfl (by omega) Tryz.underlying66 info_rcall30 (by omega) A' j c' (rqCs (ts.take j)) ⟨wr.heap.size, 0, none⟩ 1 1 [.bool put, .int .u64 val, .int .i64 bg, .int .i64 en, .bool ed, .int .u64 got, .int .i64 err] rfl rfl (HSl.out.keep (fun b hb => Below.heap_alloc _ _ _ (HSl.out.lt hb))) rfl (by omega) (fun j u hu => cells_any30 wr 36 _ j u (by simpa using hu)) (fun u hu => by simp at hu; rcases hu with rfl | rfl | rfl | rfl | rfl | rfl | rfl <;> rfl) (by omega) ?_; intro A4 c4' w4 HO4 HC4 HW4 HG4)
    refine ⟨⟨j + 1, A4, c4', by omega, by go_num, rfl, ?_, bl_ch (bl_alloc HB.out _) HC4.out (fun b hb => HO.out b hb), fun b hb => ?_⟩, by simp [intOf]; omega⟩
    · rw [HSN.out]
      exact HO4.out
    · rcases HW4.out b hb with h | h
      · exact HO.out b h
      · have h1 := HB.out.size
        rw [h]; simp; omega
  · obtain rfl : j = M := by omega
    have hX : SnP j w ts (.returned (.slice A' j c')) wr := by
     rw [List.take_of_length_le (by rw [HTS.out]; exact Nat.le_refl _)] at hSl
     exact ⟨A', c', rfl, fun h0 => hSl.rqP h0, hB⟩
    have HX := Lib.hid hX
    clear hSl hB hO hX
    go_wp2
    go_ret
    exact HX.out
/-- The values that fill puts in. -/
def fillL (n : Nat) : List Int := (List.range n).map fun (i : Nat) => 100 + (i : Int)
theorem length_fillL (n : Nat) : (fillL n).length = n := by simp [fillL]
theorem fillL_succ (n : Nat) : fillL (n + 1) = fillL n ++ [100 + (n : Int)] := by simp [fillL, List.range_succ]
section
variable {κ : Nat → Nat} {p d q n lines P N : Nat} {t : Nat → Nat} {vs : List Int} {w w' : World} {σ : PwS} {xs : List Int} {L : Nat → Int}
/-- Constants change, and there is more memory. -/
theorem QRs.chOwn {S : Nat → Prop} (h : QRs κ p d q n lines P t w vs N σ xs L) (hC : Ch S w w') (hS : ∀ b, b < w.heap.size → S b → κ b = 1 ∧ b ≠ 0) : QRs (rolN κ w w' 1) p d q n lines P t w' vs N σ xs L := by
 have hql := h.qu.hq.lt
 have h0 := h.qu.tab.1
 refine ⟨⟨(h.qu.pm.chQ hC (fun b hb hs => by have := (hS b hb hs).1; omega)).rolN, h.qu.hq.keep (hC.block q hql (fun hs => by have := (hS q hql hs).1; have := h.qu.kq; omega)), by rw [rolN_old hql]; exact h.qu.kq, h.qu.tab.ch hC (fun hs => (hS 0 h0 hs).2 rfl), by rw [rolN_old h0]; exact h.qu.k0, h.qu.hn, h.qu.hP, h.qu.hn2⟩, h.qw, fun b hb' => ?_⟩
 unfold rolN
 split
 · omega
 · exact h.k2 b (by omega)
/-- Where fill is. -/
def FlQ (κ : Nat → Nat) (p d q n lines P : Nat) (t : Nat → Nat) (N : Nat) (w : World) (j : Nat) (A : Option Addr) (c : Nat) (wr : World) : Prop :=
 ∃ (κ' : Nat → Nat) (N' : Nat) (σ : PwS) (xs : List Int) (L : Nat → Int), QRs κ' p d q n lines P t wr (fillL j) N' σ xs L ∧ N' ≤ N + 4559 * j ∧ OwnI .u64 34 wr w.heap.size A c (fillL j) ∧ (∀ b, OwnB A b → κ' b = 1) ∧ (∀ b, b < w.heap.size → κ' b = κ b) ∧ Ch (fun b => κ b = 0 ∨ κ b = 2) w wr
/-- What fill leaves. -/
def FilP (κ : Nat → Nat) (p d q n lines P : Nat) (t : Nat → Nat) (N : Nat) (w : World) (m : Nat) (e : Ending) (w' : World) : Prop :=
 ∃ A c, e = .returned (.tuple #[.slice A m c, .bool true]) ∧ FlQ κ p d q n lines P t N w m A c w'
theorem lfV1 {κ : Nat → Nat} {W : World} {g : Nat} {b : Bool} {v th : Int} (h : CB W g 44 #[.bool b, .int .u64 v, .int .i64 th]) (hk : κ g = 1) : LfV κ W (some ⟨g, 0, none⟩) 1 1 [(b, v, th)] := by
 refine ⟨rfl, Nat.le_refl _, fun _ => ⟨g, 0, rfl, hk, h.lt, fun k hk => ?_⟩⟩
 obtain rfl : k = 0 := by omega
 exact ⟨h.cell 0, h.cell 1, h.cell 2⟩
set_option maxRecDepth 100000 in
set_option maxHeartbeats 8000000 in
theorem ffill30 (h : QRs κ p d q n lines P t w [] N σ xs L) (hl : lines < 1000) (m : Nat) (hm : m ≤ P) (hP : P ≤ 100) (hN : N + 4559 * P < 1000000) : Calls Tryz.prog 26 #[.pointer (some ⟨q, 0, none⟩), .int .i64 (m : Int)] w (FilP κ p d q n lines P t N w m) := by
 obtain ⟨f0, hV0⟩ := h.quV hl
 have HCA := Lib.hid (quCap hV0)
 have HI0 : Hid (FlQ κ p d q n lines P t N w 0 none 0 w) := ⟨κ, N, σ, xs, L, h, by omega, OwnI.nil, fun b hb => by simp [OwnB] at hb, fun b hb => rfl, Ch.refl _ _⟩
 have HW0 := Lib.hid h.qu.tab.1
 have hmin : imin (m : Int) (P : Int) = (m : Int) := by unfold imin; split <;> omega
 clear h hV0
 go_enter Tryz.func26, Tryz.ntmps26
 go_wp2_with (go_at_call 24; (with_reducible refine HCA.out.mono ?_); rintro e w' ⟨rfl, rfl⟩)
 go_loopw [14, 6, 4, 5, 7, 8, 9, 15, 16, 17, 18, 19, 20, 21, 22, 23, 24, 25, 26, 27, 28, 29, 30, 31, 32, 33, 34, 35, 36, 37, 38, 39, 40, 41, 42, 43, 44, 45] (fun i l _ _ _ _ _ _ _ _ _ _ _ _ _ _ _ _ _ _ _ _ _ _ _ _ _ _ _ _ _ _ _ _ _ _ _ _ wr => ∃ (j : Nat) (A : Option Addr) (c : Nat), j ≤ m ∧ i = .int .i64 j ∧ l = .slice A j c ∧ FlQ κ p d q n lines P t N w j A c wr) (fun i _ _ _ _ _ _ _ _ _ _ _ _ _ _ _ _ _ _ _ _ _ _ _ _ _ _ _ _ _ _ _ _ _ _ _ _ _ _ => m - (intOf i).toNat)
 case atStart => exact ⟨0, none, 0, by omega, rfl, rfl, HI0.out⟩
 case round =>
  clear HI0
  obtain ⟨j, A, c, hj, rfl, rfl, hI⟩ := hrel
  by_cases hlt : j < m
  · have hlt' : (j : Int) < (m : Int) := by omega
    have e1 : IntKind.i64.wrap (100 + (j : Int)) = 100 + (j : Int) := IntWalk.i64_in _ (by omega)
    have e2 : IntKind.u64.wrap (100 + (j : Int)) = 100 + (j : Int) := IntWalk.u64_in _ (by omega)
    have e3 : IntKind.i64.wrap ((j : Int) + 1) = (j : Int) + 1 := IntWalk.i64_in _ (by omega)
    obtain ⟨κ', N', σ', xs', L', hR, hN2, hO, hA, hk, hC⟩ := hI
    have hbn : Below wr.heap.size wr (wr.alloc (.cells #[.bool true, .int .u64 (100 + (j : Int)), .int .i64 0] 44)) := bl_alloc (Below.refl _ _) _
    have hR1 := hR.ch hbn
    have hLF := lfV1 (κ := rolN κ' wr (wr.alloc (.cells #[.bool true, .int .u64 (100 + (j : Int)), .int .i64 0] 44)) 1) (CB.new wr 44 #[.bool true, .int .u64 (100 + (j : Int)), .int .i64 0]) (rolN_new (Nat.le_refl _) (by simp))
    have hb9 : N' + 4559 < 1000000 := by omega
    have HRN := Lib.hid (frunOne hR1 (some ⟨wr.heap.size, 0, none⟩) 1 (true, 100 + (j : Int), 0) hLF ⟨by show 0 ≤ 100 + (j : Int) ∧ 100 + (j : Int) < 18446744073709551616; omega, by show (-9223372036854775808 : Int) ≤ 0 ∧ (0 : Int) < 9223372036854775808; omega⟩ hb9)
    have hq : qApp P (fillL j) true (100 + (j : Int)) = (fillL (j + 1), 100 + (j : Int), 0) := by
     unfold qApp
     rw [if_pos rfl, if_neg (by rw [length_fillL]; omega), fillL_succ]
    have hmd : (100 + (j : Int)) % 1099511627776 = 100 + (j : Int) := by omega
    dsimp only at HRN
    rw [hmd] at HRN
    have HF := Lib.hid (And.intro hN2 (And.intro hO (And.intro hA (And.intro hk hC))))
    have HQ := Lib.hid hq
    clear hR hN2 hO hA hk hC hbn hR1 hLF hq hmd
    go_wp2_with (first
     | (go_at_call 12; (with_reducible refine HRN.out.mono ?_); rintro e w2 ⟨gA, oA, cm, g1, a, bg, en, κ2, N2, σ2, xs2, L2, rfl, x1, x2, hM1, hR2, hN3, hk2, hC2⟩; have HR2 := Lib.hid hR2; have HF2 := Lib.hid (And.intro hN3 (And.intro hk2 hC2)); have m6 := hM1.cell 7; rw [HQ.out] at m6; have ml := hM1.lt; have HO2 : Hid (OwnI .u64 34 w2 w.heap.size A c (fillL j)) := (HF.out.2.1).keep (fun b hb => (hC2.block b (by have h9 := (HF.out.2.1.lt hb).2; simp; omega) (fun hx => by rw [rolN_old (HF.out.2.1.lt hb).2] at hx; have h9 := HF.out.2.2.1 b hb; omega)).trans (Below.heap_alloc wr _ b (HF.out.2.1.lt hb).2)); have HBS : Hid (w.heap.size ≤ w2.heap.size) := (by have h7 := HF.out.2.2.2.2.size; have h8 := hC2.size; simp at h8; show _ ≤ _; omega); clear hM1 hR2 hN3 hk2 hC2)
     | (at_builtin; refine wpList_append_ints rfl (.tmp 39) (.tmp 43) 40 rfl 34 .u64 8 Tryz.underlying40 info_u64 (by omega) w.heap.size A c (fillL j) j (some ⟨w2.heap.size, 0, none⟩) 1 1 [100 + (j : Int)] rfl rfl (length_fillL j) (HO2.out.alloc _) rfl (rd_one30 _ _) (by rw [length_fillL]; simp; omega) (by have h9 := HBS.out; simp; omega) ?_; intro A3 c3 w3 HO3 HC3 HW3))
    refine ⟨⟨j + 1, A3, c3, by omega, by go_num, rfl, ?_⟩, by simp [intOf]; omega⟩
    obtain ⟨hN2, hO, hA, hk, hC⟩ := HF.out
    obtain ⟨hN3, hk2, hC2⟩ := HF2.out
    have hR2 := HR2.out
    rw [HQ.out] at hR2
    have s1 := hC.size
    have s2 : wr.heap.size + 1 ≤ w2.heap.size := by have := hC2.size; simpa using this
    have hC3 : Ch (OwnB A) w2 w3 := (Ch.of_below (S := OwnB A) (bl_alloc (Below.refl _ _) _)).trans HC3.out (fun b hb _ => hb)
    have hown : ∀ b, OwnB A b → κ2 b = 1 ∧ w.heap.size ≤ b ∧ b < wr.heap.size := fun b hb => by
     obtain ⟨h1, h2⟩ := hO.lt hb
     refine ⟨?_, h1, h2⟩
     rw [hk2 b (by simp; omega), rolN_old h2]; exact hA b hb
    have h0 := HW0.out
    have hR3 := hR2.chOwn hC3 (fun b _ hb => ⟨(hown b hb).1, by have := (hown b hb).2.1; omega⟩)
    refine ⟨_, N2, σ2, xs2, L2, hR3, by omega, by rw [fillL_succ]; exact HO3.out, fun b hb => ?_, fun b hb => ?_, ?_⟩
    · rcases HW3.out b hb with h1 | h1
      · obtain ⟨g1, g2, g3⟩ := hown b h1
        rw [rolN_old (by omega)]; exact g1
      · exact rolN_new (by rw [h1]; simp) (HO3.out.lt hb).2
    · rw [rolN_old (by omega), hk2 b (by simp; omega), rolN_old (by omega)]; exact hk b hb
    · refine (hC.trans ((Ch.of_below (S := fun b => rolN κ' wr _ 1 b = 0 ∨ rolN κ' wr _ 1 b = 2) (bl_alloc (Below.refl _ _) _)).trans hC2 (fun b hb _ => hb)) (fun b hb hlt2 => ?_)).trans hC3 (fun b hb hlt2 => ?_)
      · rw [rolN_old (by omega), hk b hlt2] at hb; exact hb
      · have := (hown b hb).2.1; omega
  · obtain rfl : j = m := by omega
    have HI := Lib.hid hI
    clear hI
    go_wp2
    exact bodyPost_ret (v := .tuple #[.slice A j c, .bool true]) (by simp [results, Tryz.results26, go_sem]) rfl ⟨A, c, rfl, HI.out⟩
end
end Go.Proofs.YtaefkelaffijbaaGreatDoor
