/- Sorting and searching entries; reads (merged). -/
import Derived.Test.YtaefkelaffijbaaGreatDoorKfg
import Derived.Test.YtaefkelaffijbaaGreatDoorKfc
import Derived.Shelf.SlSortCmp.Whole1
import Derived.Test.YtaefkelaffijbaaGreatDoorProg
import Derived.Test.YtaefkelaffijbaaGreatDoorKfs
import Derived.Lib.Small
namespace Go.Proofs.YtaefkelaffijbaaGreatDoor
open Go.RowKit
set_option linter.unusedVariables false
set_option linter.unusedSimpArgs false
/-- The first entry of an offset. -/
def idxOff (es : List Ent) (off : Int) : Option Nat := (List.range es.length).find? fun q => (es.getD q E0).off == off
def idxV : Option Nat → Value
 | some q => .int .i64 (q : Int)
 | none => .int .i64 (-1)
theorem idxOff_none {es : List Ent} {off : Int} (h : ∀ q, q < es.length → (es.getD q E0).off ≠ off) : idxOff es off = none := by
 unfold idxOff
 rw [List.find?_eq_none]
 intro q hq
 have := h q (by simpa using hq)
 simpa using this
theorem idxOff_some {es : List Ent} {off : Int} {q : Nat} (hq : q < es.length) (he : (es.getD q E0).off = off) (h : ∀ p, p < q → (es.getD p E0).off ≠ off) : idxOff es off = some q := by
 unfold idxOff
 rw [List.find?_range_eq_some]
 refine ⟨by simpa using he, by simpa using hq, fun p hp => ?_⟩
 have := h p hp
 simpa using this
/-- Entries that are read. -/
def EsV (w : World) (A : Option Addr) (m c : Nat) (es : List Ent) : Prop :=
 es.length = m ∧ m ≤ c ∧ ∀ (k : Nat) (h : k < es.length), ∃ g off, A = some ⟨g, off, none⟩ ∧ g < w.heap.size ∧ w.cell? ⟨g, off + k * 4, none⟩ = some (.int .u64 es[k].off) ∧ w.cell? ⟨g, off + k * 4 + 1, none⟩ = some (.int .u64 es[k].old) ∧ w.cell? ⟨g, off + k * 4 + 2, none⟩ = some (.int .u64 es[k].new) ∧ w.cell? ⟨g, off + k * 4 + 3, none⟩ = some (.bool es[k].ex)
section
variable {w w' : World} {A : Option Addr} {m c : Nat} {es : List Ent}
theorem EsV.of (h : Sl 174 4 w A m c (ecells es)) (hm : es.length = m) : EsV w A m c es := by
 refine ⟨hm, ?_, fun k hk => h.ent hk⟩
 rcases h.2 with ⟨_, h1, h2⟩ | ⟨_, _, _, _, _, h1, _⟩
 · omega
 · exact h1
theorem EsV.bl (h : EsV w A m c es) (hB : Below w.heap.size w w') : EsV w' A m c es := by
 refine ⟨h.1, h.2.1, fun k hk => ?_⟩
 obtain ⟨g, off, hA, hl, t1, t2, t3, t4⟩ := h.2.2 k hk
 have hc : ∀ o, w'.cell? ⟨g, o, none⟩ = w.cell? ⟨g, o, none⟩ := fun o => hB.cell (p := ⟨g, o, none⟩) hl
 exact ⟨g, off, hA, Nat.lt_of_lt_of_le hl hB.size, by rw [hc]; exact t1, by rw [hc]; exact t2, by rw [hc]; exact t3, by rw [hc]; exact t4⟩
theorem EsV.take (h : EsV w A m c es) (j : Nat) (hj : j ≤ m) : EsV w A j c (es.take j) := by
 obtain ⟨h1, h2, h3⟩ := h
 refine ⟨by simp; omega, by omega, fun k hk => ?_⟩
 have hk' : k < es.length := by simp at hk; omega
 have e : (es.take j)[k] = es[k] := by simp
 rw [e]; exact h3 k hk'
theorem EsV.ent (h : EsV w A m c es) {k : Nat} (hk : k < es.length) : ∃ g off, A = some ⟨g, off, none⟩ ∧ g < w.heap.size ∧ w.cell? ⟨g, off + k * 4, none⟩ = some (.int .u64 es[k].off) ∧ w.cell? ⟨g, off + k * 4 + 1, none⟩ = some (.int .u64 es[k].old) ∧ w.cell? ⟨g, off + k * 4 + 2, none⟩ = some (.int .u64 es[k].new) ∧ w.cell? ⟨g, off + k * 4 + 3, none⟩ = some (.bool es[k].ex) := h.2.2 k hk
theorem ecells_at (es : List Ent) {k : Nat} (hk : k < es.length) (r : Nat) (hr : r < 4) : (ecells es)[k * 4 + r]? = some (if r = 0 then .int .u64 es[k].off else if r = 1 then .int .u64 es[k].old else if r = 2 then .int .u64 es[k].new else .bool es[k].ex) := by
 obtain ⟨h0, h1, h2, h3⟩ := ecells_get es k hk
 rcases (by omega : r = 0 ∨ r = 1 ∨ r = 2 ∨ r = 3) with rfl | rfl | rfl | rfl
 · exact h0
 · exact h1
 · exact h2
 · exact h3
theorem EsV.cells {g off : Nat} (h : EsV w (some ⟨g, off, none⟩) m c es) (j : Nat) (u : Value) (hu : (ecells es)[j]? = some u) : w.cell? ((⟨g, off, none⟩ : Addr).add j) = some u := by
 have hj : j < es.length * 4 := by have := (List.getElem?_eq_some_iff.1 hu).1; rwa [length_ecells] at this
 have hk : j / 4 < es.length := by omega
 have h1 : (⟨g, off, none⟩ : Addr).add j = ⟨g, off + j, none⟩ := by unfold Addr.add; split <;> simp_all
 obtain ⟨g2, off2, hA, _, t1, t2, t3, t4⟩ := h.2.2 _ hk
 injection hA with hA
 injection hA with e1 e2
 subst e1 e2
 have hx := ecells_at es hk (j % 4) (by omega)
 rw [show j / 4 * 4 + j % 4 = j by omega, hu] at hx
 injection hx with hx
 rw [h1, hx]
 rcases (by omega : j % 4 = 0 ∨ j % 4 = 1 ∨ j % 4 = 2 ∨ j % 4 = 3) with hr | hr | hr | hr
 · rw [hr, if_pos rfl, show off + j = off + j / 4 * 4 by omega]; exact t1
 · rw [hr, if_neg (by omega), if_pos rfl, show off + j = off + j / 4 * 4 + 1 by omega]; exact t2
 · rw [hr, if_neg (by omega), if_neg (by omega), if_pos rfl, show off + j = off + j / 4 * 4 + 2 by omega]; exact t3
 · rw [hr, if_neg (by omega), if_neg (by omega), if_neg (by omega), show off + j = off + j / 4 * 4 + 3 by omega]; exact t4
end
section
variable {w : World} {A : Option Addr} {m c : Nat} {es : List Ent} {off : Int}
set_option maxRecDepth 100000 in
theorem cloBefore (W : World) (e : Ent) (g : Nat) (hg : W.cell? ⟨g, 0, none⟩ = some (.int .u64 off)) :
 Calls Tryz.prog 112 #[.agg #[.int .u64 e.off, .int .u64 e.old, .int .u64 e.new, .bool e.ex], .pointer (some ⟨g, 0, none⟩)] W fun r w' => r = .returned (.bool (e.off == off)) ∧ Below W.heap.size W w' := by
 have hgl : g < W.heap.size := World.block_lt_of_cell? W _ hg
 go_enter Tryz.func112, Tryz.ntmps112
 go_wp2
 go_ret
 exact ⟨rfl, (by (repeat (first | with_reducible (first | exact Below.refl _ _ | refine bl_alloc ?_ _ | refine bl_drew ?_ | refine bl_drewN ?_ _ | refine bl_bx ?_ _ | exact BX.below _ | refine bl_set ?_ (by first | (exact Nat.le_refl _) | (simp; done) | (simp; omega)) _) | assumption)))⟩
set_option maxRecDepth 100000 in
set_option maxHeartbeats 1000000 in
theorem idxBefore (w : World) (A : Option Addr) (m c : Nat) (es : List Ent) (hm : es.length = m) (hm2 : m ≤ 100000) (hS : EsV w A m c es) (g : Nat) (hg : w.cell? ⟨g, 0, none⟩ = some (.int .u64 off)) :
 Calls Tryz.prog 111 #[.slice A m c, .func (.func 112) #[] #[.pointer (some ⟨g, 0, none⟩)]] w fun r w' => r = .returned (idxV (idxOff es off)) ∧ Below w.heap.size w w' := by
 have HS := Lib.hid hS
 have HM := Lib.hid hm
 have hgl : g < w.heap.size := World.block_lt_of_cell? w _ hg
 clear hS hm
 go_enter Tryz.func111, Tryz.ntmps111
 go_wp2
 go_loopw [8, 5, 10, 4, 9, 11, 12, 13, 14, 15, 16, 17, 18] (fun i _ _ _ _ _ _ _ _ _ _ _ _ wr => ∃ j : Nat, j ≤ m ∧ i = .int .i64 j ∧ (∀ q, q < j → (es.getD q E0).off ≠ off) ∧ Below w.heap.size w wr) (fun i _ _ _ _ _ _ _ _ _ _ _ _ _ => m - (intOf i).toNat)
 case atStart => exact ⟨0, by omega, rfl, fun q hq => by omega, Below.refl _ _⟩
 case round =>
  obtain ⟨j, hj, rfl, hno, hB⟩ := hrel
  have HNO := Lib.hid hno
  have HB := Lib.hid hB
  have hgr : wr.cell? ⟨g, 0, none⟩ = some (.int .u64 off) := (hB.cell (p := ⟨g, 0, none⟩) hgl).trans hg
  have hgl2 : g < wr.heap.size := Nat.lt_of_lt_of_le hgl hB.size
  by_cases hlt : j < m
  · have hlt' : (j : Int) < (m : Int) := by omega
    obtain ⟨g2, off2, hA, hl, t1, t2, t3, t4⟩ := (HS.out.bl hB).ent (k := j) (by rw [HM.out]; exact hlt)
    have heg : es.getD j E0 = es[j]'(by rw [HM.out]; exact hlt) := by rw [List.getD_eq_getElem?_getD, List.getElem?_eq_getElem (by rw [HM.out]; exact hlt)]; rfl
    obtain ⟨e, he⟩ : ∃ e, es[j]'(by rw [HM.out]; exact hlt) = e := ⟨_, rfl⟩
    rw [he] at t1 t2 t3 t4 heg
    have HEG := Lib.hid heg
    obtain ⟨eo, eold, enew, eex⟩ := e
    dsimp only at t1 t2 t3 t4
    subst hA
    have HCL := Lib.hid (fun (W : World) (h : W.cell? ⟨g, 0, none⟩ = some (.int .u64 off)) => cloBefore W ⟨eo, eold, enew, eex⟩ g h)
    dsimp only at HCL
    clear hno hB he heg
    by_cases hq : eo = off
    · have hb : (eo == off) = true := by simpa using hq
      rw [hb] at HCL
      have HQ := Lib.hid hq
      clear hb hq
      go_wp2_with (go_at_call 112; refine (HCL.out _ hgr).mono ?_; rintro e w' ⟨rfl, hb⟩; obtain ⟨x, rfl⟩ := bx_of hb; clear hb)
      go_ret
      rw [idxOff_some (q := j) (by rw [HM.out]; exact hlt) (by rw [HEG.out]; exact HQ.out) HNO.out]
      exact ⟨rfl, HB.out.trans ((by (repeat (first | with_reducible (first | exact Below.refl _ _ | refine bl_alloc ?_ _ | refine bl_drew ?_ | refine bl_drewN ?_ _ | refine bl_bx ?_ _ | exact BX.below _ | refine bl_set ?_ (by first | (exact Nat.le_refl _) | (simp; done) | (simp; omega)) _) | assumption)) : Below wr.heap.size wr _).mono HB.out.size)⟩
    · have hb : (eo == off) = false := by simpa using hq
      rw [hb] at HCL
      have HQ := Lib.hid hq
      clear hb hq
      go_wp2_with (go_at_call 112; refine (HCL.out _ hgr).mono ?_; rintro e w' ⟨rfl, hb⟩; obtain ⟨x, rfl⟩ := bx_of hb; clear hb)
      refine ⟨⟨j + 1, by omega, by go_num, fun q hq' => ?_, HB.out.trans ((by (repeat (first | with_reducible (first | exact Below.refl _ _ | refine bl_alloc ?_ _ | refine bl_drew ?_ | refine bl_drewN ?_ _ | refine bl_bx ?_ _ | exact BX.below _ | refine bl_set ?_ (by first | (exact Nat.le_refl _) | (simp; done) | (simp; omega)) _) | assumption)) : Below wr.heap.size wr _).mono HB.out.size)⟩, by simp [intOf]; omega⟩
      by_cases hqj : q = j
      · rw [hqj, HEG.out]; exact HQ.out
      · exact HNO.out q (by omega)
  · obtain rfl : j = m := by omega
    go_wp2
    go_ret
    rw [idxOff_none (fun q hq => HNO.out q (by rw [HM.out] at hq; exact hq))]
    exact ⟨rfl, HB.out⟩
set_option maxRecDepth 100000 in
theorem cloSame (W : World) (e : Ent) (g : Nat) (hg : W.cell? ⟨g, 0, none⟩ = some (.int .u64 off)) :
 Calls Tryz.prog 135 #[.agg #[.int .u64 e.off, .int .u64 e.old, .int .u64 e.new, .bool e.ex], .pointer (some ⟨g, 0, none⟩)] W fun r w' => r = .returned (.bool (e.off == off)) ∧ Below W.heap.size W w' := by
 have hgl : g < W.heap.size := World.block_lt_of_cell? W _ hg
 go_enter Tryz.func135, Tryz.ntmps135
 go_wp2
 go_ret
 exact ⟨rfl, (by (repeat (first | with_reducible (first | exact Below.refl _ _ | refine bl_alloc ?_ _ | refine bl_drew ?_ | refine bl_drewN ?_ _ | refine bl_bx ?_ _ | exact BX.below _ | refine bl_set ?_ (by first | (exact Nat.le_refl _) | (simp; done) | (simp; omega)) _) | assumption)))⟩
set_option maxRecDepth 100000 in
set_option maxHeartbeats 1000000 in
theorem idxSame (w : World) (A : Option Addr) (m c : Nat) (es : List Ent) (hm : es.length = m) (hm2 : m ≤ 100000) (hS : EsV w A m c es) (g : Nat) (hg : w.cell? ⟨g, 0, none⟩ = some (.int .u64 off)) :
 Calls Tryz.prog 111 #[.slice A m c, .func (.func 135) #[] #[.pointer (some ⟨g, 0, none⟩)]] w fun r w' => r = .returned (idxV (idxOff es off)) ∧ Below w.heap.size w w' := by
 have HS := Lib.hid hS
 have HM := Lib.hid hm
 have hgl : g < w.heap.size := World.block_lt_of_cell? w _ hg
 clear hS hm
 go_enter Tryz.func111, Tryz.ntmps111
 go_wp2
 go_loopw [8, 5, 10, 4, 9, 11, 12, 13, 14, 15, 16, 17, 18] (fun i _ _ _ _ _ _ _ _ _ _ _ _ wr => ∃ j : Nat, j ≤ m ∧ i = .int .i64 j ∧ (∀ q, q < j → (es.getD q E0).off ≠ off) ∧ Below w.heap.size w wr) (fun i _ _ _ _ _ _ _ _ _ _ _ _ _ => m - (intOf i).toNat)
 case atStart => exact ⟨0, by omega, rfl, fun q hq => by omega, Below.refl _ _⟩
 case round =>
  obtain ⟨j, hj, rfl, hno, hB⟩ := hrel
  have HNO := Lib.hid hno
  have HB := Lib.hid hB
  have hgr : wr.cell? ⟨g, 0, none⟩ = some (.int .u64 off) := (hB.cell (p := ⟨g, 0, none⟩) hgl).trans hg
  have hgl2 : g < wr.heap.size := Nat.lt_of_lt_of_le hgl hB.size
  by_cases hlt : j < m
  · have hlt' : (j : Int) < (m : Int) := by omega
    obtain ⟨g2, off2, hA, hl, t1, t2, t3, t4⟩ := (HS.out.bl hB).ent (k := j) (by rw [HM.out]; exact hlt)
    have heg : es.getD j E0 = es[j]'(by rw [HM.out]; exact hlt) := by rw [List.getD_eq_getElem?_getD, List.getElem?_eq_getElem (by rw [HM.out]; exact hlt)]; rfl
    obtain ⟨e, he⟩ : ∃ e, es[j]'(by rw [HM.out]; exact hlt) = e := ⟨_, rfl⟩
    rw [he] at t1 t2 t3 t4 heg
    have HEG := Lib.hid heg
    obtain ⟨eo, eold, enew, eex⟩ := e
    dsimp only at t1 t2 t3 t4
    subst hA
    have HCL := Lib.hid (fun (W : World) (h : W.cell? ⟨g, 0, none⟩ = some (.int .u64 off)) => cloSame W ⟨eo, eold, enew, eex⟩ g h)
    dsimp only at HCL
    clear hno hB he heg
    by_cases hq : eo = off
    · have hb : (eo == off) = true := by simpa using hq
      rw [hb] at HCL
      have HQ := Lib.hid hq
      clear hb hq
      go_wp2_with (go_at_call 135; refine (HCL.out _ hgr).mono ?_; rintro e w' ⟨rfl, hb⟩; obtain ⟨x, rfl⟩ := bx_of hb; clear hb)
      go_ret
      rw [idxOff_some (q := j) (by rw [HM.out]; exact hlt) (by rw [HEG.out]; exact HQ.out) HNO.out]
      exact ⟨rfl, HB.out.trans ((by (repeat (first | with_reducible (first | exact Below.refl _ _ | refine bl_alloc ?_ _ | refine bl_drew ?_ | refine bl_drewN ?_ _ | refine bl_bx ?_ _ | exact BX.below _ | refine bl_set ?_ (by first | (exact Nat.le_refl _) | (simp; done) | (simp; omega)) _) | assumption)) : Below wr.heap.size wr _).mono HB.out.size)⟩
    · have hb : (eo == off) = false := by simpa using hq
      rw [hb] at HCL
      have HQ := Lib.hid hq
      clear hb hq
      go_wp2_with (go_at_call 135; refine (HCL.out _ hgr).mono ?_; rintro e w' ⟨rfl, hb⟩; obtain ⟨x, rfl⟩ := bx_of hb; clear hb)
      refine ⟨⟨j + 1, by omega, by go_num, fun q hq' => ?_, HB.out.trans ((by (repeat (first | with_reducible (first | exact Below.refl _ _ | refine bl_alloc ?_ _ | refine bl_drew ?_ | refine bl_drewN ?_ _ | refine bl_bx ?_ _ | exact BX.below _ | refine bl_set ?_ (by first | (exact Nat.le_refl _) | (simp; done) | (simp; omega)) _) | assumption)) : Below wr.heap.size wr _).mono HB.out.size)⟩, by simp [intOf]; omega⟩
      by_cases hqj : q = j
      · rw [hqj, HEG.out]; exact HQ.out
      · exact HNO.out q (by omega)
  · obtain rfl : j = m := by omega
    go_wp2
    go_ret
    rw [idxOff_none (fun q hq => HNO.out q (by rw [HM.out] at hq; exact hq))]
    exact ⟨rfl, HB.out⟩
set_option maxRecDepth 100000 in
/-- Does an entry of that offset lie among them? -/
theorem contE (w : World) (A : Option Addr) (m c : Nat) (es : List Ent) (hm : es.length = m) (hm2 : m ≤ 100000) (hS : EsV w A m c es) (g : Nat) (hg : w.cell? ⟨g, 0, none⟩ = some (.int .u64 off)) :
 Calls Tryz.prog 136 #[.slice A m c, .func (.func 135) #[] #[.pointer (some ⟨g, 0, none⟩)]] w fun r w' => r = .returned (.bool (idxOff es off).isSome) ∧ Below w.heap.size w w' := by
 have HI := Lib.hid (idxSame w A m c es hm hm2 hS g hg)
 clear hS hm hg
 cases hq : idxOff es off with
 | none =>
  rw [hq] at HI
  dsimp only [idxV] at HI
  go_enter Tryz.func136, Tryz.ntmps136
  go_wp2_with (go_at_call 111; refine HI.out.mono ?_; rintro e w' ⟨rfl, hb⟩; obtain ⟨x, rfl⟩ := bx_of hb; clear hb)
  go_ret
  exact ⟨rfl, (by (repeat (first | with_reducible (first | exact Below.refl _ _ | refine bl_alloc ?_ _ | refine bl_drew ?_ | refine bl_drewN ?_ _ | refine bl_bx ?_ _ | exact BX.below _ | refine bl_set ?_ (by first | (exact Nat.le_refl _) | (simp; done) | (simp; omega)) _) | assumption)))⟩
 | some q =>
  rw [hq] at HI
  dsimp only [idxV] at HI
  have h0 : decide ((q : Int) ≥ 0) = true := decide_eq_true (by omega)
  have h1 : decide (0 ≤ (q : Int)) = true := decide_eq_true (by omega)
  go_enter Tryz.func136, Tryz.ntmps136
  go_wp2_with (go_at_call 111; refine HI.out.mono ?_; rintro e w' ⟨rfl, hb⟩; obtain ⟨x, rfl⟩ := bx_of hb; clear hb)
  go_ret
  exact ⟨by simp, (by (repeat (first | with_reducible (first | exact Below.refl _ _ | refine bl_alloc ?_ _ | refine bl_drew ?_ | refine bl_drewN ?_ _ | refine bl_bx ?_ _ | exact BX.below _ | refine bl_set ?_ (by first | (exact Nat.le_refl _) | (simp; done) | (simp; omega)) _) | assumption)))⟩
end
/-- The first descriptor that is not in use. -/
def idxB (bs : List Bool) : Option Nat := (List.range bs.length).find? fun q => !bs.getD q true
theorem get_bools (bs : List Bool) (k : Nat) (h : k < bs.length) (h2 : k < (bools bs).length) : (bools bs)[k] = .bool (bs[k]'h) := by simp [bools]
set_option maxRecDepth 100000 in
set_option maxHeartbeats 1000000 in
theorem indexB (w : World) (A : Option Addr) (m c : Nat) (bs : List Bool) (hm : bs.length = m) (hm2 : m ≤ 100000) (hS : Sl 4 1 w A m c (bools bs)) :
 Calls Tryz.prog 137 #[.slice A m c, .bool false] w fun r w' => r = .returned (idxV (idxB bs)) ∧ w = w' := by
 have HS := Lib.hid hS
 have HM := Lib.hid hm
 clear hS hm
 go_enter Tryz.func137, Tryz.ntmps137
 go_wp2
 go_loopw [8, 5, 10, 4, 9, 11, 12, 13, 14, 15, 16, 17, 18] (fun i _ _ _ _ _ _ _ _ _ _ _ _ wr => ∃ j : Nat, j ≤ m ∧ i = .int .i64 j ∧ (∀ q, q < j → bs.getD q true = true) ∧ w = wr) (fun i _ _ _ _ _ _ _ _ _ _ _ _ _ => m - (intOf i).toNat)
 case atStart => exact ⟨0, by omega, rfl, fun q hq => by omega, rfl⟩
 case round =>
  obtain ⟨j, hj, rfl, hno, rfl⟩ := hrel
  have HNO := Lib.hid hno
  by_cases hlt : j < m
  · have hlt' : (j : Int) < (m : Int) := by omega
    have hjl : j < bs.length := by rw [HM.out]; exact hlt
    obtain ⟨g2, off2, hA, hl, t1⟩ := HS.out.at_ (j := j) (by simpa [bools] using hjl)
    rw [get_bools _ _ hjl] at t1
    have hgd : bs.getD j true = bs[j]'hjl := by rw [List.getD_eq_getElem?_getD, List.getElem?_eq_getElem hjl]; rfl
    obtain ⟨b, hb⟩ : ∃ b, bs[j]'hjl = b := ⟨_, rfl⟩
    rw [hb] at t1 hgd
    have HGD := Lib.hid hgd
    subst hA
    clear hno hb hgd hjl
    cases b with
    | false =>
     go_wp2
     go_ret
     have : idxB bs = some j := by
      unfold idxB
      rw [List.find?_range_eq_some]
      exact ⟨by rw [HGD.out]; rfl, by simpa [HM.out] using hlt, fun q hq => by rw [HNO.out q hq]; rfl⟩
     rw [this]
     exact ⟨rfl, rfl⟩
    | true =>
     go_wp2
     refine ⟨⟨j + 1, by omega, by go_num, fun q hq => ?_, trivial⟩, by simp [intOf]; omega⟩
     by_cases hqj : q = j
     · rw [hqj]; exact HGD.out
     · exact HNO.out q (by omega)
  · obtain rfl : j = m := by omega
    go_wp2
    go_ret
    have : idxB bs = none := by
     unfold idxB
     rw [List.find?_eq_none]
     intro q hq
     have := HNO.out q (by simpa [HM.out] using hq)
     simpa using this
    rw [this]
    exact ⟨rfl, rfl⟩
open Go.Shelf
def sortI_ren : Go.Shelf.Ren := ⟨fun | 6 => 139 | 15 => 102 | 14 => 150 | 28 => 125 | 29 => 126 | 20 => 153 | 21 => 154 | 22 => 155 | 23 => 156 | 24 => 157 | 25 => 158 | 26 => 159 | 27 => 160 | 46 => 161 | 47 => 143 | 48 => 144 | 49 => 162 | 50 => 163 | 57 => 164 | n => n, fun | 22 => 23 | 24 => 3 | 25 => 45 | 3 => 3 | 39 => 175 | 0 => 0 | 53 => 206 | 55 => 34 | 4 => 4 | 46 => 198 | 45 => 197 | 50 => 203 | 5 => 5 | 9 => 9 | 66 => 217 | 70 => 220 | 76 => 224 | 77 => 107 | n => n, fun | n => n⟩
theorem sortI : Go.Proofs.SlLaysF.n6 Tryz.prog sortI_ren := {
 mixed := by kernel_rfl
 f6 := ⟨Tryz.f139.name, by decide, Tryz.func139.trans (congrArg some (by kernel_rfl))⟩
 f14 := ⟨Tryz.f150.name, by decide, Tryz.func150.trans (congrArg some (by kernel_rfl))⟩
 f15 := Tryz.func102.trans (congrArg some (by kernel_rfl))
 f20 := ⟨Tryz.f153.name, by decide, Tryz.func153.trans (congrArg some (by kernel_rfl))⟩
 f21 := ⟨Tryz.f154.name, by decide, Tryz.func154.trans (congrArg some (by kernel_rfl))⟩
 f22 := ⟨Tryz.f155.name, by decide, Tryz.func155.trans (congrArg some (by kernel_rfl))⟩
 f23 := ⟨Tryz.f156.name, by decide, Tryz.func156.trans (congrArg some (by kernel_rfl))⟩
 f24 := ⟨Tryz.f157.name, by decide, Tryz.func157.trans (congrArg some (by kernel_rfl))⟩
 f25 := ⟨Tryz.f158.name, by decide, Tryz.func158.trans (congrArg some (by kernel_rfl))⟩
 f26 := ⟨Tryz.f159.name, by decide, Tryz.func159.trans (congrArg some (by kernel_rfl))⟩
 f27 := ⟨Tryz.f160.name, by decide, Tryz.func160.trans (congrArg some (by kernel_rfl))⟩
 f28 := Tryz.func125.trans (congrArg some (by kernel_rfl))
 f29 := Tryz.func126.trans (congrArg some (by kernel_rfl))
 f46 := ⟨Tryz.f161.name, by decide, Tryz.func161.trans (congrArg some (by kernel_rfl))⟩
 f47 := Tryz.func143.trans (congrArg some (by kernel_rfl))
 f48 := Tryz.func144.trans (congrArg some (by kernel_rfl))
 f49 := ⟨Tryz.f162.name, by decide, Tryz.func162.trans (congrArg some (by kernel_rfl))⟩
 f50 := ⟨Tryz.f163.name, by decide, Tryz.func163.trans (congrArg some (by kernel_rfl))⟩
 f57 := ⟨Tryz.f164.name, by decide, Tryz.func164.trans (congrArg some (by kernel_rfl))⟩
 t0 := Tryz.underlying0
 a0 := Tryz.isAgg0
 z0 := Tryz.sizeOf0
 v0 := Tryz.zeroValue0
 t3 := Tryz.underlying3
 a3 := Tryz.isAgg3
 z3 := Tryz.sizeOf3
 v3 := Tryz.zeroValue3
 t4 := Tryz.underlying4
 a4 := Tryz.isAgg4
 z4 := Tryz.sizeOf4
 v4 := Tryz.zeroValue4
 t5 := Tryz.underlying5
 a5 := Tryz.isAgg5
 z5 := Tryz.sizeOf5
 v5 := Tryz.zeroValue5
 t9 := Tryz.underlying9
 a9 := Tryz.isAgg9
 z9 := Tryz.sizeOf9
 v9 := Tryz.zeroValue9
 t22 := Tryz.underlying23
 a22 := Tryz.isAgg23
 z22 := Tryz.sizeOf23
 v22 := Tryz.zeroValue23
 a24 := Tryz.isAgg3
 z24 := Tryz.sizeOf3
 t25 := Tryz.underlying45
 a25 := Tryz.isAgg45
 z25 := Tryz.sizeOf45
 v25 := Tryz.zeroValue45
 t39 := Tryz.underlying175
 a39 := Tryz.isAgg175
 z39 := Tryz.sizeOf175
 v39 := Tryz.zeroValue175
 t45 := Tryz.underlying197
 a45 := Tryz.isAgg197
 z45 := Tryz.sizeOf197
 v45 := Tryz.zeroValue197
 t46 := Tryz.underlying198
 a46 := Tryz.isAgg198
 z46 := Tryz.sizeOf198
 v46 := Tryz.zeroValue198
 t50 := Tryz.underlying203
 a50 := Tryz.isAgg203
 z50 := Tryz.sizeOf203
 v50 := Tryz.zeroValue203
 t53 := Tryz.underlying206
 a53 := Tryz.isAgg206
 z53 := Tryz.sizeOf206
 v53 := Tryz.zeroValue206
 t55 := Tryz.underlying34
 a55 := Tryz.isAgg34
 z55 := Tryz.sizeOf34
 v55 := Tryz.zeroValue34
 t66 := Tryz.underlying217
 a66 := Tryz.isAgg217
 z66 := Tryz.sizeOf217
 v66 := Tryz.zeroValue217
 t70 := Tryz.underlying220
 a70 := Tryz.isAgg220
 z70 := Tryz.sizeOf220
 v70 := Tryz.zeroValue220
 t76 := Tryz.underlying224
 a76 := Tryz.isAgg224
 z76 := Tryz.sizeOf224
 v76 := Tryz.zeroValue224
 t77 := Tryz.underlying107
 a77 := Tryz.isAgg107
 z77 := Tryz.sizeOf107
 v77 := Tryz.zeroValue107 }
end Go.Proofs.YtaefkelaffijbaaGreatDoor
namespace Go.Proofs.YtaefkelaffijbaaGreatDoor
open Go.RowKit
set_option linter.unusedVariables false
set_option linter.unusedSimpArgs false
theorem isNaNU_any (w : World) (x : Int) : Calls Tryz.prog 147 #[.int .u64 x] w fun e w' => e = .returned (.bool false) ∧ w = w' := by
 go_enter Tryz.func147, Tryz.ntmps147
 go_wp2
 go_ret
 exact ⟨by simp, rfl⟩
set_option maxHeartbeats 400000 in
theorem cmpU_any (w : World) (x y : Int) : Calls Tryz.prog 141 #[.int .u64 x, .int .u64 y] w fun e w' => e = .returned (.int .i64 (Lib.compareInt x y)) ∧ w = w' := by
 by_cases h1 : x < y
 · have e : Lib.compareInt x y = -1 := by simp [Lib.compareInt, h1]
   have HE := Lib.hid e
   clear e
   go_enter Tryz.func141, Tryz.ntmps141
   go_wp2_with (go_at_call 147; refine (isNaNU_any _ _).mono ?_; rintro e w' ⟨rfl, rfl⟩)
   go_ret
   rw [HE.out]
   exact ⟨rfl, rfl⟩
 · by_cases h2 : y < x
   · have e : Lib.compareInt x y = 1 := by simp [Lib.compareInt, h1, h2]
     have HE := Lib.hid e
     clear e
     go_enter Tryz.func141, Tryz.ntmps141
     go_wp2_with (go_at_call 147; refine (isNaNU_any _ _).mono ?_; rintro e w' ⟨rfl, rfl⟩)
     go_ret
     rw [HE.out]
     exact ⟨rfl, rfl⟩
   · have e : Lib.compareInt x y = 0 := by simp [Lib.compareInt, h1, h2]
     have HE := Lib.hid e
     clear e
     go_enter Tryz.func141, Tryz.ntmps141
     go_wp2_with (go_at_call 147; refine (isNaNU_any _ _).mono ?_; rintro e w' ⟨rfl, rfl⟩)
     go_ret
     rw [HE.out]
     exact ⟨rfl, rfl⟩
def encI {m : Nat} (x : Fin m) : Value := .int .i64 ((x.val : Nat) : Int)
def cfI (es : List Ent) (m : Nat) (x y : Fin m) : Int := Lib.compareInt (es.getD x.val E0).off (es.getD y.val E0).off
theorem ltI (es : List Ent) (m : Nat) (x y : Fin m) : ltOf (cfI es m) x y = decide ((es.getD x.val E0).off < (es.getD y.val E0).off) := by
 unfold ltOf cfI Lib.compareInt
 by_cases h1 : (es.getD x.val E0).off < (es.getD y.val E0).off
 · simp only [h1, if_true, decide_true]; rfl
 · by_cases h2 : (es.getD y.val E0).off < (es.getD x.val E0).off
   · simp only [h1, h2, if_true, if_false, decide_false]; rfl
   · simp only [h1, h2, if_false, decide_false]; rfl
theorem swoI (es : List Ent) (m : Nat) : Go.Sort.SWO (ltOf (cfI es m)) where
 irrefl x := by rw [ltI]; simp
 trans x y z h1 h2 := by rw [ltI] at *; simp at *; omega
 ntrans x y z h1 h2 := by rw [ltI] at *; simp at *; omega
set_option maxHeartbeats 1000000 in
/-- The closure compares two entries by their offsets. -/
theorem begCmp (W : World) (gO a : Nat) (ea : Option Addr) (m ec : Nat) (es : List Ent) (hm : es.length = m) (hO : W.cell? ⟨gO, 0, none⟩ = some (.pointer (some ⟨a, 0, none⟩))) (h3 : W.cell? ⟨a, 3, none⟩ = some (.slice ea m ec)) (hS : Sl 174 4 W ea m ec (ecells es)) (x y : Fin m) :
 Calls Tryz.prog 140 #[.int .i64 ((x.val : Nat) : Int), .int .i64 ((y.val : Nat) : Int), .pointer (some ⟨gO, 0, none⟩)] W fun e w' => e = .returned (.int .i64 (cfI es m x y)) ∧ ∃ q, w' = W.drewN q := by
 have hx := x.isLt
 have hy := y.isLt
 obtain ⟨g, off, hA, hgl, t1, _, _, _⟩ := hS.ent (k := x.val) (by omega)
 obtain ⟨g2, off2, hA2, _, s1, _, _, _⟩ := hS.ent (k := y.val) (by omega)
 rw [hA] at hA2
 injection hA2 with hA2
 injection hA2 with e1 e2
 subst e1 e2
 subst hA
 have hgO : gO < W.heap.size := World.block_lt_of_cell? W _ hO
 have ha : a < W.heap.size := World.block_lt_of_cell? W _ h3
 have ex : es.getD x.val E0 = es[x.val]'(by omega) := by rw [List.getD_eq_getElem?_getD, List.getElem?_eq_getElem (by omega)]; rfl
 have ey : es.getD y.val E0 = es[y.val]'(by omega) := by rw [List.getD_eq_getElem?_getD, List.getElem?_eq_getElem (by omega)]; rfl
 obtain ⟨u, hu⟩ : ∃ u, (es[x.val]'(by omega)).off = u := ⟨_, rfl⟩
 obtain ⟨v, hv⟩ : ∃ v, (es[y.val]'(by omega)).off = v := ⟨_, rfl⟩
 have HR : Hid (cfI es m x y = Lib.compareInt u v) := by show _ = _; unfold cfI; rw [ex, ey, hu, hv]
 rw [hu] at t1
 rw [hv] at s1
 rw [HR.out]
 have HC := Lib.hid (fun W => cmpU_any W u v)
 obtain ⟨xv, hxv⟩ : ∃ xv, x.val = xv := ⟨_, rfl⟩
 obtain ⟨yv, hyv⟩ : ∃ yv, y.val = yv := ⟨_, rfl⟩
 rw [hxv] at hx t1
 rw [hyv] at hy s1
 rw [hxv, hyv]
 have hxI : (xv : Int) < (m : Int) := by omega
 have hyI : (yv : Int) < (m : Int) := by omega
 clear hS hu hv ex ey HR hxv hyv
 go_enter Tryz.func140, Tryz.ntmps140
 go_upto_region 1 with (fail)
 refine wp_region_still_n 16 (by kernel_rfl) (by kernel_rfl) ?_
 simp only [List.take_succ_cons, List.take_zero, List.drop_succ_cons, List.drop_zero]
 repeat (go_big_quiet_step (fail))
 refine wpQuiet_nil ?_
 rintro _ ⟨nq, rfl⟩
 go_wp2_with (go_at_call 141; refine (HC.out _).mono ?_; rintro e w' ⟨rfl, rfl⟩)
 go_ret
 exact ⟨rfl, nq, rfl⟩
section
variable {α : Type} [Inhabited α] {enc : α → Value} {w : World} {blk off n : Nat} {d d0 : Array α} {os : Array Obj}
theorem ch_sort1 : Ch (At blk) w (sortWorld enc w blk off n d os) := by
 refine ⟨rfl, rfl, rfl, ?_, fun b hb hS => ?_⟩
 · simp [sortWorld, Go.Sort.grow, Go.Sort.putRow, Go.Sort.mapBlock, Go.Sort.ahead]
 · have hne : blk ≠ b := fun h => hS h.symm
   unfold sortWorld Go.Sort.grow Go.Sort.putRow Go.Sort.mapBlock Go.Sort.ahead
   simp only
   rw [Array.getElem?_append_left (by simpa using hb), Array.getElem?_modify, if_neg hne]
theorem cb_sort1 {e : TypeId} {cur : Array Value} (h : CB w blk e cur) : CB (sortWorld enc w blk off n d os) blk e (Go.Sort.putCells enc off d cur) := by
 have hl := h.lt
 unfold CB at h ⊢
 unfold sortWorld Go.Sort.grow Go.Sort.putRow Go.Sort.mapBlock Go.Sort.ahead
 simp only
 rw [Array.getElem?_append_left (by simpa using hl), Array.getElem?_modify, if_pos rfl, h]
 rfl
end
set_option maxHeartbeats 1000000 in
theorem sortI17 (w : World) (gO a blk off cap m : Nat) (hm1 : 1 ≤ m) (hm6 : m ≤ 1000) (ks : List Nat) (hk : ks.Perm (List.range m)) (hS : Sl 3 1 w (some ⟨blk, off, none⟩) m cap (kints ks)) (ea : Option Addr) (ec : Nat) (es : List Ent) (hes : es.length = m)
 (hO : w.cell? ⟨gO, 0, none⟩ = some (.pointer (some ⟨a, 0, none⟩))) (h3 : w.cell? ⟨a, 3, none⟩ = some (.slice ea m ec)) (hE : Sl 174 4 w ea m ec (ecells es)) (n1 : blk ≠ gO) (n2 : blk ≠ a) (n3 : ∀ b, OwnB ea b → b ≠ blk) :
 Calls Tryz.prog 139 #[.slice (some ⟨blk, off, none⟩) m cap, .func (.func 140) #[] #[.pointer (some ⟨gO, 0, none⟩)]] w fun e w' => e = .returned (.tuple #[]) ∧ ∃ ks' : List Nat, ks'.Perm (List.range m) ∧ Sl 3 1 w' (some ⟨blk, off, none⟩) m cap (kints ks') ∧ Ch (At blk) w w' := by
 have eg : ∀ args w, (callFunc 140 args).run Tryz.prog w = .ok (.enter 140 args) w := enters_of Tryz.func140 (by kernel_rfl) rfl
 have hgO : gO < w.heap.size := World.block_lt_of_cell? w _ hO
 have ha : a < w.heap.size := World.block_lt_of_cell? w _ h3
 have hkl : ks.length = m := by rw [hk.length_eq]; simp
 obtain ⟨m', rfl⟩ : ∃ m', m = m' + 1 := ⟨m - 1, by omega⟩
 have hblk : blk < w.heap.size := hS.lt (by simp [OwnB])
 obtain ⟨cur, hCB, hnc, hcm, hfit, htk⟩ : ∃ cur, CB w blk 3 cur ∧ m' + 1 ≤ cap ∧ cap ≤ maxLen ∧ off + cap * 1 ≤ cur.size ∧ (cur.toList.drop off).take ((m' + 1) * 1) = kints ks := by
  rcases hS.2 with ⟨hx, _⟩ | ⟨g', o', cur, hA, hC, h1, h2, h3, h4⟩
  · cases hx
  · injection hA with hA
    injection hA with e1 e2
    subst e1 e2
    exact ⟨cur, hC, h1, h2, h3, h4⟩
 obtain ⟨d, hd⟩ : ∃ d : Array (Fin (m' + 1)), d = (ks.map fun k => (Fin.ofNat (m' + 1) k)).toArray := ⟨_, rfl⟩
 have hds : d.size = m' + 1 := by rw [hd]; simp [hkl]
 have hlt : ∀ k ∈ ks, k < m' + 1 := fun k hkk => by have := hk.mem_iff.1 hkk; simpa using this
 have hdv : ∀ j (hj : j < ks.length), (d[j]!).val = ks[j] := fun j hj => by
  have h1 : d[j]! = Fin.ofNat (m' + 1) ks[j] := by rw [hd]; simp [hj]
  rw [h1]
  show ks[j] % (m' + 1) = ks[j]
  exact Nat.mod_eq_of_lt (hlt _ (List.getElem_mem hj))
 have hH : Go.Sort.Holds (encI (m := m' + 1)) w blk off d := by
  intro j hj
  have hj' : j < ks.length := by omega
  obtain ⟨g, o, hA, _, hc⟩ := hS.at_ (j := j) (by simpa [kints] using hj')
  injection hA with hA
  injection hA with e1 e2
  subst e1 e2
  rw [get_kints _ _ hj'] at hc
  refine ⟨?_, hCB.frozen _⟩
  rw [hc]
  unfold encI
  rw [hdv j hj']
 have hcon := Any.slices_SortFunc sortI (encI (m := m' + 1)) (fun _ => rfl) (cfI es (m' + 1)) (swoI es (m' + 1)) 140 #[.pointer (some ⟨gO, 0, none⟩)] blk off cap d w eg (fun q os dk hs x y => by
  have hc : Ch (At blk) w (sortWorld (encI (m := m' + 1)) w blk off q dk os) := ch_sort1
  refine (begCmp _ gO a ea (m' + 1) ec es hes ((hc.cells gO 0 hgO (fun h => n1 h.symm)).trans hO) ((hc.cells a 3 ha (fun h => n2 h.symm)).trans h3) (hE.ch hc (fun b hb => n3 b hb)) x y).mono ?_
  rintro e w' ⟨rfl, q2, rfl⟩
  exact ⟨rfl, q2, #[], by rw [Go.Sort.grow_empty]⟩) hH hblk (by rw [hds]; omega)
 rw [hds] at hcon
 change Calls Tryz.prog 139 _ _ _ at hcon
 refine hcon.mono ?_
 rintro e w' ⟨rfl, d', q, os, hp, _, rfl⟩
 obtain ⟨p1, _, p3⟩ := hp
 have hd' : d'.size = m' + 1 := by rw [p1]; exact hds
 have hx1 : d'.extract 0 (m' + 1) = d' := by
  have h9 : d'.extract 0 d'.size = d' := by simp
  rwa [hd'] at h9
 have hx2 : d.extract 0 (m' + 1) = d := by
  have h9 : d.extract 0 d.size = d := by simp
  rwa [hds] at h9
 rw [hx1, hx2] at p3
 have hkd : d.toList.map (fun x => x.val) = ks := by
  apply List.ext_getElem
  · simp [hds, hkl]
  · intro j h1 h2
    have := hdv j h2
    simp only [List.getElem_map, Array.getElem_toList]
    rw [← this]
    congr 1
    simp at h1
    simp [h1]
 have hh' := holds_sortWorld (encI (m := m' + 1)) w blk off q d d' os hblk hH p1
 refine ⟨rfl, d'.toList.map (fun x => x.val), ?_, ?_, ch_sort1⟩
 · refine List.Perm.trans ?_ hk
   rw [← hkd]
   exact p3.map _
 · refine ⟨by simp [kints, hd'], .inr ⟨blk, off, _, rfl, cb_sort1 hCB, hnc, hcm, ?_, ?_⟩⟩
   · simpa [Go.Sort.putCells] using hfit
   · have hsz : off + (m' + 1) ≤ cur.size := by omega
     apply List.ext_getElem
     · simp [kints, hd', Go.Sort.putCells]; omega
     · intro j h1 h2
       have hj : j < m' + 1 := by simpa [kints, hd'] using h2
       simp only [kints, List.getElem_take, List.getElem_drop, List.getElem_map, Array.getElem_toList, Go.Sort.putCells, Array.getElem_mapIdx]
       rw [if_pos (by rw [hd']; omega)]
       unfold encI
       congr 3
       rw [show off + j - off = j by omega]
       simp [hd', hj]
/-- The cells of a read. -/
def rdcells (pv : Value) (tv : Value) (r : RdS) : Array Value := #[pv, tv, .int .u64 r.off, .int .i64 r.place, .int .u64 r.raw, .bool r.ended, .int .i64 r.err]
def befV : Option Int → Value
 | some x => .tuple #[.int .u64 x, .bool true]
 | none => .tuple #[.int .u64 0, .bool false]
theorem idx_bef (o : OpS) (off : Int) : o.bef off = if o.stage = 3 then (idxOff o.es off).map (fun q => gt0 o.seen q) else none := rfl
section
variable {K : Nat → Prop} {p d c a line lines : Nat} {t : Nat → Nat} {size : Int} {w w2 : World} {σ : PwS} {o oc : OpS} {rb : Nat} {pv tv : Value} {r : RdS}
/-- What `before` reads of an operation. -/
theorem PMx.bef (H : PMx K p d t line lines size w σ) (ha : σ.ops a = some o) : ∃ ea ec sb sc, w.cell? ⟨a, 3, none⟩ = some (.slice ea o.es.length ec) ∧ w.cell? ⟨a, 5, none⟩ = some (.slice (some ⟨sb, 0, none⟩) o.seen.length sc) ∧ w.cell? ⟨a, 7, none⟩ = some (.int .i64 o.stage) ∧ Sl 174 4 w ea o.es.length ec (ecells o.es) ∧ IB .u64 34 w sb o.seen ∧ o.seen.length ≤ sc ∧ a < w.heap.size := by
 obtain ⟨role, bb, h, hK⟩ := H
 obtain ⟨ea, ec, oa, ock, sb, sc, pa, pc, h1, h2, h3, h4, h4', h5, _⟩ := h.op a o ha
 exact ⟨ea, ec, sb, sc, h1.opc.c3, h1.opc.c5, h1.opc.c7, h2, h4, h4', h1.lt⟩
set_option maxRecDepth 100000 in
set_option maxHeartbeats 2000000 in
theorem pwBefore (H : PMx K p d t line lines size w σ) (hcu : ∀ c, σ.cur = some c → ∃ oc, σ.ops c = some oc ∧ oc.seen.length = oc.es.length ∧ oc.es.length ≤ 100000) (off : Int) :
 Calls Tryz.prog 93 #[.pointer (some ⟨p, 0, none⟩), .int .u64 off] w fun e w' => e = .returned (befV (σ.before off)) ∧ Below w.heap.size w w' := by
 obtain ⟨HLp, p5, f5⟩ := H.pool
 cases hc : σ.cur with
 | none =>
  have HB : Hid (σ.before off = none) := by show _ = _; simp [PwS.before, hc]
  rw [hc] at p5
  rw [HB.out]
  clear hc hcu H HB
  go_enter Tryz.func93, Tryz.ntmps93
  go_wp2
  exact bodyPost_ret (v := .tuple #[.int .u64 0, .bool false]) (by simp [results, Tryz.results93, go_sem]) rfl ⟨rfl, (by (repeat (first | with_reducible (first | exact Below.refl _ _ | refine bl_alloc ?_ _ | refine bl_drew ?_ | refine bl_drewN ?_ _ | refine bl_bx ?_ _ | exact BX.below _ | refine bl_set ?_ (by first | (exact Nat.le_refl _) | (simp; done) | (simp; omega)) _) | assumption)))⟩
 | some c =>
  obtain ⟨oc, hoc, hsl, hl⟩ := hcu c hc
  obtain ⟨ea, ec, sb, sc, c3, c5, c7, hS, hI, hsc, hlt⟩ := H.bef hoc
  have HB : Hid (σ.before off = oc.bef off) := by show _ = _; simp [PwS.before, hc, hoc]
  rw [hc] at p5
  rw [HB.out, idx_bef]
  have HS := Lib.hid hS
  have HI := Lib.hid hI
  obtain ⟨m, hm⟩ : ∃ m, oc.es.length = m := ⟨_, rfl⟩
  have HM := Lib.hid hm
  rw [hm] at c3 hsl hl
  rw [hsl] at c5 hsc
  have hsbl := hI.lt
  by_cases hs : oc.stage = 3
  · rw [hs] at c7
    rw [if_pos hs]
    have HIX : Hid (∀ W g, Below w.heap.size w W → W.cell? ⟨g, 0, none⟩ = some (.int .u64 off) → Calls Tryz.prog 111 #[.slice ea m ec, .func (.func 112) #[] #[.pointer (some ⟨g, 0, none⟩)]] W fun r w' => r = .returned (idxV (idxOff oc.es off)) ∧ Below W.heap.size W w') := fun W g hW hg =>
     idxBefore W ea m ec oc.es HM.out hl (by have := (EsV.of HS.out rfl).bl hW; rwa [HM.out] at this) g hg
    cases hq : idxOff oc.es off with
    | none =>
     rw [hq] at HIX
     dsimp only [idxV] at HIX
     clear hc hcu H HB hS hI hoc hs hq
     go_enter Tryz.func93, Tryz.ntmps93
     go_wp2_with (go_at_call 111; refine (HIX.out _ _ (by (repeat (first | with_reducible (first | exact Below.refl _ _ | refine bl_alloc ?_ _ | refine bl_drew ?_ | refine bl_drewN ?_ _ | refine bl_bx ?_ _ | exact BX.below _ | refine bl_set ?_ (by first | (exact Nat.le_refl _) | (simp; done) | (simp; omega)) _) | assumption))) (by go_simp)).mono ?_; rintro e w' ⟨rfl, hb⟩; obtain ⟨x, rfl⟩ := bx_of hb; clear hb)
     exact bodyPost_ret (v := .tuple #[.int .u64 0, .bool false]) (by simp [results, Tryz.results93, go_sem]) rfl ⟨rfl, (by (repeat (first | with_reducible (first | exact Below.refl _ _ | refine bl_alloc ?_ _ | refine bl_drew ?_ | refine bl_drewN ?_ _ | refine bl_bx ?_ _ | exact BX.below _ | refine bl_set ?_ (by first | (exact Nat.le_refl _) | (simp; done) | (simp; omega)) _) | assumption)))⟩
    | some q =>
     have hql : q < m := by
      have := List.mem_of_find?_eq_some hq
      rw [hm] at this
      simpa using this
     have hcs : w.cell? ⟨sb, q, none⟩ = some (.int .u64 (gt0 oc.seen q)) := by
      rw [hI.cell (by omega), gt0_eq (by omega)]
     rw [hq] at HIX
     dsimp only [idxV] at HIX
     have hq0 : ¬ (q : Int) < 0 := by omega
     have hqI : (q : Int) < (m : Int) := by omega
     obtain ⟨z, hz⟩ : ∃ z, gt0 oc.seen q = z := ⟨_, rfl⟩
     have HZ : Hid ((some q).map (fun q => gt0 oc.seen q) = some z) := by show _ = _; simp [hz]
     rw [hz] at hcs
     rw [HZ.out]
     clear hc hcu H HB hS hI hoc hs hq hz HZ
     go_enter Tryz.func93, Tryz.ntmps93
     go_wp2_with (go_at_call 111; refine (HIX.out _ _ (by (repeat (first | with_reducible (first | exact Below.refl _ _ | refine bl_alloc ?_ _ | refine bl_drew ?_ | refine bl_drewN ?_ _ | refine bl_bx ?_ _ | exact BX.below _ | refine bl_set ?_ (by first | (exact Nat.le_refl _) | (simp; done) | (simp; omega)) _) | assumption))) (by go_simp)).mono ?_; rintro e w' ⟨rfl, hb⟩; obtain ⟨x, rfl⟩ := bx_of hb; clear hb)
     exact bodyPost_ret (v := .tuple #[.int .u64 z, .bool true]) (by simp [results, Tryz.results93, go_sem]) rfl ⟨rfl, (by (repeat (first | with_reducible (first | exact Below.refl _ _ | refine bl_alloc ?_ _ | refine bl_drew ?_ | refine bl_drewN ?_ _ | refine bl_bx ?_ _ | exact BX.below _ | refine bl_set ?_ (by first | (exact Nat.le_refl _) | (simp; done) | (simp; omega)) _) | assumption)))⟩
  · rw [if_neg hs]
    have hs' : ((oc.stage : Int) != 3) = true := by rw [bne_iff_ne]; omega
    clear hc hcu H HB hS hI hoc hs
    go_enter Tryz.func93, Tryz.ntmps93
    go_wp2
    exact bodyPost_ret (v := .tuple #[.int .u64 0, .bool false]) (by simp [results, Tryz.results93, go_sem]) rfl ⟨rfl, (by (repeat (first | with_reducible (first | exact Below.refl _ _ | refine bl_alloc ?_ _ | refine bl_drew ?_ | refine bl_drewN ?_ _ | refine bl_bx ?_ _ | exact BX.below _ | refine bl_set ?_ (by first | (exact Nat.le_refl _) | (simp; done) | (simp; omega)) _) | assumption)))⟩
set_option maxRecDepth 100000 in
/-- A read ends with an error. -/
theorem rdEnd (w : World) (h : CB w rb 168 (rdcells pv tv r)) (e : Int) :
 Calls Tryz.prog 92 #[.pointer (some ⟨rb, 0, none⟩), .int .i64 e] w fun x w' => x = .returned (.bool true) ∧ CB w' rb 168 (rdcells pv tv (r.fail e)) ∧ Ch (At rb) w w' := by
 have HC := Lib.hid h
 have c5 : w.cell? ⟨rb, 5, none⟩ = some (.bool r.ended) := h.cell 5
 have c6 : w.cell? ⟨rb, 6, none⟩ = some (.int .i64 r.err) := h.cell 6
 have c4 : w.cell? ⟨rb, 4, none⟩ = some (.int .u64 r.raw) := h.cell 4
 have f5 := h.frozen 5
 have f6 := h.frozen 6
 have f4 := h.frozen 4
 have hl := h.lt
 clear h
 go_enter Tryz.func92, Tryz.ntmps92
 go_wp2
 go_ret
 exact ⟨rfl, ((HC.out.set 5 _).set 6 _).set 4 _, (((Ch.refl _ _).set1 _ _).set1 _ _).set1 _ _⟩
/-- What a read was told. -/
def RdS.val (r : RdS) : Value := if !r.ended then .tuple #[.int .u64 0, .int .i64 8] else if r.err ≠ 0 then .tuple #[.int .u64 0, .int .i64 r.err] else .tuple #[.int .u64 (r.raw % 1099511627776), .int .i64 0]
set_option maxRecDepth 100000 in
theorem rdValue (w : World) (h : CB w rb 168 (rdcells pv tv r)) (hr : 0 ≤ r.raw ∧ r.raw < 18446744073709551616) :
 Calls Tryz.prog 96 #[.pointer (some ⟨rb, 0, none⟩)] w fun x w' => x = .returned r.val ∧ Below w.heap.size w w' := by
 have c5 : w.cell? ⟨rb, 5, none⟩ = some (.bool r.ended) := h.cell 5
 have c6 : w.cell? ⟨rb, 6, none⟩ = some (.int .i64 r.err) := h.cell 6
 have c4 : w.cell? ⟨rb, 4, none⟩ = some (.int .u64 r.raw) := h.cell 4
 have hl := h.lt
 have e1 := wb_lim r.raw hr
 clear h hr
 unfold RdS.val
 cases he : r.ended with
 | false =>
  rw [he] at c5
  go_enter Tryz.func96, Tryz.ntmps96
  go_wp2
  exact bodyPost_ret (v := .tuple #[.int .u64 0, .int .i64 8]) (by simp [results, Tryz.results96, go_sem]) rfl ⟨rfl, (by (repeat (first | with_reducible (first | exact Below.refl _ _ | refine bl_alloc ?_ _ | refine bl_drew ?_ | refine bl_drewN ?_ _ | refine bl_bx ?_ _ | exact BX.below _ | refine bl_set ?_ (by first | (exact Nat.le_refl _) | (simp; done) | (simp; omega)) _) | assumption)))⟩
 | true =>
  rw [he] at c5
  by_cases h0 : r.err = 0
  · rw [h0] at c6
    rw [h0]
    go_enter Tryz.func96, Tryz.ntmps96
    go_wp2
    exact bodyPost_ret (v := .tuple #[.int .u64 (r.raw % 1099511627776), .int .i64 0]) (by simp [results, Tryz.results96, go_sem]) rfl ⟨rfl, (by (repeat (first | with_reducible (first | exact Below.refl _ _ | refine bl_alloc ?_ _ | refine bl_drew ?_ | refine bl_drewN ?_ _ | refine bl_bx ?_ _ | exact BX.below _ | refine bl_set ?_ (by first | (exact Nat.le_refl _) | (simp; done) | (simp; omega)) _) | assumption)))⟩
  · have h0' : (r.err != 0) = true := by simpa using h0
    have HE : Hid (r.err ≠ 0) := h0
    rw [if_neg (by simp), if_pos HE.out]
    obtain ⟨er, her⟩ : ∃ er, r.err = er := ⟨_, rfl⟩
    rw [her] at c6 h0' ⊢
    clear h0 HE her
    go_enter Tryz.func96, Tryz.ntmps96
    go_wp2
    go_quiet (fail)
    go_wp2
    exact bodyPost_ret (v := .tuple #[.int .u64 0, .int .i64 er]) (by simp [results, Tryz.results96, go_sem]) rfl ⟨rfl, (by (repeat (first | with_reducible (first | exact Below.refl _ _ | refine bl_alloc ?_ _ | refine bl_drew ?_ | refine bl_drewN ?_ _ | refine bl_bx ?_ _ | exact BX.below _ | refine bl_set ?_ (by first | (exact Nat.le_refl _) | (simp; done) | (simp; omega)) _) | assumption)))⟩
end
section
variable {K F : Nat → Prop} {p d c a line lines : Nat} {t : Nat → Nat} {size : Int} {w w' w2 : World} {σ : PwS} {o oc : OpS} {rb : Nat} {pv tv : Value} {r : RdS} {N : Nat} {S : DevS}
/-- Blocks that are not the pool's change. -/
theorem PMx.chK {T : Nat → Prop} (h : PMx K p d t line lines size w σ) (hc : Ch T w w') (hT : ∀ b, b < w.heap.size → T b → K b) : PMx K p d t line lines size w' σ := by
 obtain ⟨role, bb, h, hK⟩ := h
 have hs := hc.size
 have hne : ∀ b, b < w.heap.size → role b ≠ 0 → w'.heap[b]? = w.heap[b]? := fun b hb hr => hc.block b hb (fun hx => hr (hK b (hT b hb hx)).1)
 refine ⟨fun b => if w.heap.size ≤ b then 0 else role b, bb, ⟨?_, h.pl.keep (hne p h.pl.lt (by rw [h.rp]; omega)), h.bz.keep (fun b hb' => ?_), ?_, ?_, h.pb, fun a o ho => (h.op a o ho).keep (fun b hl hr => by rw [if_neg (by omega)]; exact hr) (fun b hl hr => hne b hl (by rw [hr]; omega))⟩, fun b hk => ?_⟩
 · refine (h.dv.chLess hc (X := fun b => w.heap.size ≤ b ∧ b < w'.heap.size) (fun b hb hf hx => ?_) (fun b hx => hx)).mono (fun b hf => ?_)
   · have := (hK b (hT b hb hx)).1
     rcases hf with hf | hf
     · omega
     · omega
   · by_cases hl : w.heap.size ≤ b
     · right
       have := hf.2
       omega
     · left
       rw [if_neg hl]
       exact hf.1.resolve_right hl
 · have : b = bb := by simpa [OwnB, eq_comm] using hb'
   rw [this]; exact hne bb (h.bz.lt (b := bb) (by simp [OwnB])) (by rw [h.rb]; omega)
 · rw [if_neg (by have := h.pl.lt; omega)]; exact h.rp
 · rw [if_neg (by have := h.bz.lt (b := bb) (by simp [OwnB]); omega)]; exact h.rb
 · obtain ⟨h1, h2⟩ := hK b hk
   exact ⟨by show (if _ then _ else role b) = 0; rw [if_neg (by omega)]; exact h1, by omega⟩
theorem loadG (h : DV F d t w S) (i : Nat) (hi : i < 8) (off : Int) (ho : 0 ≤ off ∧ off < 18446744073709551616) :
 Calls Tryz.prog 61 #[.pointer (some ⟨t i, 0, none⟩), .int .u64 off] w fun e w' => e = .returned (.int .u64 (S.load off)) ∧ DV F d t w' (S.on i (S.wordB off)) ∧ Ch F w w' := by
 obtain ⟨h1, L, rfl, h3, h4⟩ := h
 refine (thLoad w d L S h3 i hi off ho).mono ?_
 rintro e w' ⟨rfl, hD2, hC2⟩
 exact ⟨rfl, ⟨fun b hb => h1 b (Nat.le_trans hC2.size hb), L, rfl, hD2, h4⟩, hC2.mono (fun b hb _ => h4 b hb)⟩
/-- A read and its pool after some of its instructions. -/
def RdAt (K : Nat → Prop) (p d : Nat) (t : Nat → Nat) (line lines : Nat) (size : Int) (rb : Nat) (pv tv : Value) (w : World) (w' : World) (σ : PwS) (r : RdS) : Prop :=
 PMx K p d t line lines size w' σ ∧ CB w' rb 168 (rdcells pv tv r) ∧ Ch (fun b => ¬ K b ∨ b = rb) w w'
theorem RdAt.set (h : RdAt K p d t line lines size rb pv tv w w2 σ r) (hK : K rb) (hC : Ch (At rb) w2 w') {r' : RdS} (hr : CB w' rb 168 (rdcells pv tv r')) : RdAt K p d t line lines size rb pv tv w w' σ r' :=
 ⟨h.1.chK hC (fun b _ hb => by rw [show b = rb from hb]; exact hK), hr, h.2.2.trans hC (fun b hb _ => .inr hb)⟩
theorem RdAt.dev (h : RdAt K p d t line lines size rb pv tv w w2 σ r) (hK : K rb) {σ' : PwS} (hC : Ch (fun b => ¬ K b) w2 w') (hP : PMx K p d t line lines size w' σ') : RdAt K p d t line lines size rb pv tv w w' σ' r :=
 ⟨hP, h.2.1.keep (hC.block rb h.2.1.lt (fun hx => hx hK)), h.2.2.trans hC (fun b hb _ => .inl hb)⟩
theorem RdAt.bl (h : RdAt K p d t line lines size rb pv tv w w2 σ r) (hB : Below w2.heap.size w2 w') : RdAt K p d t line lines size rb pv tv w w' σ r :=
 ⟨h.1.bl0 hB, h.2.1.below hB, h.2.2.trans (Ch.of_below (S := fun _ => False) hB) (fun _ hb _ => hb.elim)⟩
/-- A read ends, and its pool stays. -/
theorem rdEndR (hK : K rb) (h : RdAt K p d t line lines size rb pv tv w w2 σ r) (e : Int) : Calls Tryz.prog 92 #[.pointer (some ⟨rb, 0, none⟩), .int .i64 e] w2 fun x w' => x = .returned (.bool true) ∧ RdAt K p d t line lines size rb pv tv w w' σ (r.fail e) :=
 (rdEnd w2 h.2.1 e).mono (fun x w' hx => ⟨hx.1, h.set hK hx.2.2 hx.2.1⟩)
theorem RdAt.cells (h : RdAt K p d t line lines size rb pv tv w w2 σ r) : w2.cell? ⟨rb, 0, none⟩ = some pv ∧ w2.cell? ⟨rb, 1, none⟩ = some tv ∧ w2.cell? ⟨rb, 2, none⟩ = some (.int .u64 r.off) ∧ w2.cell? ⟨rb, 3, none⟩ = some (.int .i64 r.place) ∧ w2.cell? ⟨rb, 4, none⟩ = some (.int .u64 r.raw) ∧ w2.cell? ⟨rb, 5, none⟩ = some (.bool r.ended) ∧ w2.cell? ⟨rb, 6, none⟩ = some (.int .i64 r.err) ∧ rb < w2.heap.size ∧ ∀ i, w2.frozen? ⟨rb, i, none⟩ = false :=
 ⟨h.2.1.cell 0, h.2.1.cell 1, h.2.1.cell 2, h.2.1.cell 3, h.2.1.cell 4, h.2.1.cell 5, h.2.1.cell 6, h.2.1.lt, fun i => h.2.1.frozen i⟩
theorem RdAt.setRaw (h : RdAt K p d t line lines size rb pv tv w w2 σ r) (hK : K rb) (x : Int) : RdAt K p d t line lines size rb pv tv w (w2.setCell ⟨rb, 4, none⟩ (.int .u64 x)) σ { r with raw := x } := h.set hK ((Ch.refl _ _).set1 _ _) (h.2.1.set 4 _)
theorem RdAt.setEnd (h : RdAt K p d t line lines size rb pv tv w w2 σ r) (hK : K rb) : RdAt K p d t line lines size rb pv tv w (w2.setCell ⟨rb, 5, none⟩ (.bool true)) σ { r with ended := true } := h.set hK ((Ch.refl _ _).set1 _ _) (h.2.1.set 5 _)
theorem RdAt.setPl (h : RdAt K p d t line lines size rb pv tv w w2 σ r) (hK : K rb) (k : Nat) (x : Int) (hx : x = k) : RdAt K p d t line lines size rb pv tv w (w2.setCell ⟨rb, 3, none⟩ (.int .i64 x)) σ { r with place := k } := by
 subst hx; exact h.set hK ((Ch.refl _ _).set1 _ _) (h.2.1.set 3 _)
theorem RdAt.call {f : FuncId} {args : Array Value} {v : Value} {S' : DevS} (h : RdAt K p d t line lines size rb pv tv w w2 σ r) (hK : K rb) (hcall : ∀ F, DV F d t w2 σ.dev → Calls Tryz.prog f args w2 fun e w' => e = .returned v ∧ DV F d t w' S' ∧ Ch F w2 w') :
 Calls Tryz.prog f args w2 fun e w' => e = .returned v ∧ RdAt K p d t line lines size rb pv tv w w' { σ with dev := S' } r :=
 (pwDev h.1 hcall).mono (fun e w' hx => ⟨hx.1, h.dev hK hx.2.2 hx.2.1⟩)
theorem chk_ok {D : DevS} (h : (D.thr r.th).err = 0) : r.chk D = r := by unfold RdS.chk; rw [if_neg (by rw [h]; simp)]
theorem chk_err {D : DevS} {e : Int} (h : (D.thr r.th).err = e) (he : e ≠ 0) : r.chk D = r.fail e := by unfold RdS.chk; rw [h, if_pos he]
set_option maxRecDepth 100000 in
set_option maxHeartbeats 8000000 in
theorem rdStep (H : PMx K p d t line lines size w σ) (hK : K rb) (hC : CB w rb 168 (rdcells (.pointer (some ⟨p, 0, none⟩)) (.pointer (some ⟨t r.th, 0, none⟩)) r))
 (hcu : ∀ c, σ.cur = some c → ∃ oc, σ.ops c = some oc ∧ oc.seen.length = oc.es.length ∧ oc.es.length ≤ 100000) (hth : r.th < 8) (ho : 0 ≤ r.off ∧ r.off < 18446744073709551616) (hG : Good σ.dev N) (hN : N < 1000000) (hp : r.place ≤ 2)
 (hv : r.place = 0 → 0 ≤ σ.dev.load r.off ∧ σ.dev.load r.off < 4611686018427387904) :
 Calls Tryz.prog 67 #[.pointer (some ⟨rb, 0, none⟩)] w fun e w' => e = .returned (.bool (σ.rstep r).2.ended) ∧ RdAt K p d t line lines size rb (.pointer (some ⟨p, 0, none⟩)) (.pointer (some ⟨t r.th, 0, none⟩)) w w' (σ.rstep r).1 (σ.rstep r).2 := by
 have H0 : Hid (RdAt K p d t line lines size rb (.pointer (some ⟨p, 0, none⟩)) (.pointer (some ⟨t r.th, 0, none⟩)) w w σ r) := ⟨H, hC, Ch.refl _ _⟩
 have HK := Lib.hid hK
 obtain ⟨c0, c1, c2, c3, _, c5, _, hl, _⟩ := H0.out.cells
 have HER := Lib.hid (H.err r.th hth)
 have HERR := Lib.hid (fun (W : World) (τ : PwS) (r' : RdS) (h : RdAt K p d t line lines size rb (.pointer (some ⟨p, 0, none⟩)) (.pointer (some ⟨t r.th, 0, none⟩)) w W τ r') => h.1.err r.th hth)
 have HEND := Lib.hid (fun (W : World) (τ : PwS) (r' : RdS) (h : RdAt K p d t line lines size rb (.pointer (some ⟨p, 0, none⟩)) (.pointer (some ⟨t r.th, 0, none⟩)) w W τ r') => rdEndR hK h)
 cases he : r.ended with
 | true =>
  have HQ : Hid (σ.rstep r = (σ, r)) := by show _ = _; unfold PwS.rstep; rw [if_pos he]
  have HE := Lib.hid he
  rw [he] at c5
  clear hC hcu hG hv H he
  rw [HQ.out]
  go_enter Tryz.func67, Tryz.ntmps67
  go_wp2
  go_ret
  rw [HE.out]
  exact ⟨rfl, H0.out⟩
 | false =>
  have HE := Lib.hid he
  rw [he] at c5
  by_cases h0 : (σ.dev.thr r.th).err = 0
  · rw [h0] at HER
    by_cases p0 : r.place = 0
    · obtain ⟨hv0, hv1⟩ := hv p0
      obtain ⟨v, hvv⟩ : ∃ v, σ.dev.load r.off = v := ⟨_, rfl⟩
      obtain ⟨D, hD⟩ : ∃ D, σ.dev.on r.th (σ.dev.wordB r.off) = D := ⟨_, rfl⟩
      have HLD := Lib.hid (fun (W : World) (hW : RdAt K p d t line lines size rb (.pointer (some ⟨p, 0, none⟩)) (.pointer (some ⟨t r.th, 0, none⟩)) w W σ r) => hW.call hK (fun F hF => loadG hF r.th hth r.off ho))
      rw [hvv, hD] at HLD
      have HBF := Lib.hid (fun (W : World) (h : RdAt K p d t line lines size rb (.pointer (some ⟨p, 0, none⟩)) (.pointer (some ⟨t r.th, 0, none⟩)) w W { σ with dev := D } r) => pwBefore h.1 hcu r.off)
      have HQ : Hid (σ.rstep r = ({ σ with dev := D }, match ({ σ with dev := D } : PwS).before r.off with
       | some x => ({ r with raw := x, ended := true, place := 1 } : RdS).chk D
       | none => ({ r with raw := v, place := 1 } : RdS).chk D)) := by
       show _ = _
       unfold PwS.rstep
       rw [if_neg (by rw [he]; simp), if_neg (by rw [h0]; simp), if_pos p0, ← hvv, ← hD]
       rfl
      rw [hvv] at hv0 hv1
      have e1 := wb_dirty v ⟨hv0, hv1⟩
      have e2 := wb_busy v (by omega)
      have HP0 := Lib.hid p0
      rw [p0] at c3
      obtain ⟨σ1, hσ1⟩ : ∃ σ1, ({ σ with dev := D } : PwS) = σ1 := ⟨_, rfl⟩
      have HD1 : Hid (σ1.dev = D) := by show _ = _; rw [← hσ1]
      rw [hσ1] at HLD HBF HQ
      obtain ⟨er, her⟩ : ∃ er, (D.thr r.th).err = er := ⟨_, rfl⟩
      have HERD : Hid (∀ (W : World) (r' : RdS), RdAt K p d t line lines size rb (.pointer (some ⟨p, 0, none⟩)) (.pointer (some ⟨t r.th, 0, none⟩)) w W σ1 r' → Calls Tryz.prog 62 #[(.pointer (some ⟨t r.th, 0, none⟩))] W fun e w' => e = .returned (.int .i64 er) ∧ W = w') := fun W r' h => by have := HERR.out W σ1 r' h; rwa [HD1.out, her] at this
      have HR := Lib.hid her
      clear hC hcu hG hv H he hvv hD hv0 hv1 hσ1 p0 h0 HERR her HD1
      rw [HQ.out]
      cases hb : σ1.before r.off with
      | some x =>
       rw [hb] at HBF
       dsimp only [befV] at HBF ⊢
       clear hb HQ
       by_cases hz : er = 0
       · have HZ : Hid (({ r with raw := x, ended := true, place := 1 } : RdS).chk D = ({ r with raw := x, ended := true, place := 1 } : RdS)) := chk_ok (HR.out.trans hz)
         rw [hz] at HERD
         rw [HZ.out]
         clear hz HR
         go_enter Tryz.func67, Tryz.ntmps67
         go_upto_region 8 with (go_at_call 62; refine HER.out.mono ?_; rintro e w' ⟨rfl, rfl⟩)
         refine wp_region_still_n 8 (by kernel_rfl) (by kernel_rfl) ?_
         simp only [List.take_succ_cons, List.take_zero, List.drop_succ_cons, List.drop_zero]
         repeat (go_big_quiet_step (fail))
         refine wpQuiet_nil ?_
         rintro _ ⟨nq, rfl⟩
         go_upto_region 9 with (go_at_call 61; refine (HLD.out _ (H0.out.bl (by (repeat (first | with_reducible (first | exact Below.refl _ _ | refine bl_alloc ?_ _ | refine bl_drew ?_ | refine bl_drewN ?_ _ | refine bl_bx ?_ _ | exact BX.below _ | refine bl_set ?_ (by first | (exact Nat.le_refl _) | (simp; done) | (simp; omega)) _) | assumption))))).mono ?_; rintro e w2 ⟨rfl, hR⟩; obtain ⟨d0, d1, d2, d3, d4, d5, d6, hl2, df⟩ := hR.cells; have HR2 := Lib.hid hR; clear hR)
         rw [HP0.out] at d3
         rw [HE.out] at d5
         have df3 := df 3
         have df4 := df 4
         have df5 := df 5
         clear df
         refine wp_region_bx (by kernel_rfl) (by kernel_rfl) ?_
         repeat (go_big_quiet_step ((go_at_call 93; exact bx_call (HBF.out _ (HR2.out.bl (BX.below _))))))
         refine wpQuiet_nil ?_
         rintro _ ⟨y, rfl⟩
         have HR3 := Lib.hid (HR2.out.bl y.below)
         have hly := y.lt_size hl2
         go_wp2_with (first | (go_at_call 62; refine (HERD.out _ _ (((HR3.out.setRaw HK.out x).setEnd HK.out).setPl HK.out 1 1 rfl)).mono ?_; rintro e w' ⟨rfl, rfl⟩))
         go_ret
         exact ⟨rfl, (((HR3.out.setRaw HK.out x).setEnd HK.out).setPl HK.out 1 1 rfl)⟩
       · have HZ : Hid (({ r with raw := x, ended := true, place := 1 } : RdS).chk D = ({ r with raw := x, ended := true, place := 1 } : RdS).fail er) := chk_err HR.out hz
         have hz' : (er != 0) = true := by simpa using hz
         rw [HZ.out]
         clear hz HR
         go_enter Tryz.func67, Tryz.ntmps67
         go_upto_region 8 with (go_at_call 62; refine HER.out.mono ?_; rintro e w' ⟨rfl, rfl⟩)
         refine wp_region_still_n 8 (by kernel_rfl) (by kernel_rfl) ?_
         simp only [List.take_succ_cons, List.take_zero, List.drop_succ_cons, List.drop_zero]
         repeat (go_big_quiet_step (fail))
         refine wpQuiet_nil ?_
         rintro _ ⟨nq, rfl⟩
         go_upto_region 9 with (go_at_call 61; refine (HLD.out _ (H0.out.bl (by (repeat (first | with_reducible (first | exact Below.refl _ _ | refine bl_alloc ?_ _ | refine bl_drew ?_ | refine bl_drewN ?_ _ | refine bl_bx ?_ _ | exact BX.below _ | refine bl_set ?_ (by first | (exact Nat.le_refl _) | (simp; done) | (simp; omega)) _) | assumption))))).mono ?_; rintro e w2 ⟨rfl, hR⟩; obtain ⟨d0, d1, d2, d3, d4, d5, d6, hl2, df⟩ := hR.cells; have HR2 := Lib.hid hR; clear hR)
         rw [HP0.out] at d3
         rw [HE.out] at d5
         have df3 := df 3
         have df4 := df 4
         have df5 := df 5
         clear df
         refine wp_region_bx (by kernel_rfl) (by kernel_rfl) ?_
         repeat (go_big_quiet_step ((go_at_call 93; exact bx_call (HBF.out _ (HR2.out.bl (BX.below _))))))
         refine wpQuiet_nil ?_
         rintro _ ⟨y, rfl⟩
         have HR3 := Lib.hid (HR2.out.bl y.below)
         have hly := y.lt_size hl2
         go_wp2_with (first | (go_at_call 62; refine (HERD.out _ _ (((HR3.out.setRaw HK.out x).setEnd HK.out).setPl HK.out 1 1 rfl)).mono ?_; rintro e w' ⟨rfl, rfl⟩) | (go_at_call 92; refine (HEND.out _ _ _ (((HR3.out.setRaw HK.out x).setEnd HK.out).setPl HK.out 1 1 rfl) er).mono ?_; rintro e w5 ⟨rfl, hR⟩; have HR5 := Lib.hid hR; clear hR))
         go_ret
         exact ⟨rfl, HR5.out⟩
      | none =>
       rw [hb] at HBF
       dsimp only [befV] at HBF ⊢
       clear hb HQ
       by_cases hz : er = 0
       · have HZ : Hid (({ r with raw := v, place := 1 } : RdS).chk D = ({ r with raw := v, place := 1 } : RdS)) := chk_ok (HR.out.trans hz)
         rw [hz] at HERD
         rw [HZ.out]
         clear hz HR
         go_enter Tryz.func67, Tryz.ntmps67
         go_upto_region 8 with (go_at_call 62; refine HER.out.mono ?_; rintro e w' ⟨rfl, rfl⟩)
         refine wp_region_still_n 8 (by kernel_rfl) (by kernel_rfl) ?_
         simp only [List.take_succ_cons, List.take_zero, List.drop_succ_cons, List.drop_zero]
         repeat (go_big_quiet_step (fail))
         refine wpQuiet_nil ?_
         rintro _ ⟨nq, rfl⟩
         go_upto_region 9 with (go_at_call 61; refine (HLD.out _ (H0.out.bl (by (repeat (first | with_reducible (first | exact Below.refl _ _ | refine bl_alloc ?_ _ | refine bl_drew ?_ | refine bl_drewN ?_ _ | refine bl_bx ?_ _ | exact BX.below _ | refine bl_set ?_ (by first | (exact Nat.le_refl _) | (simp; done) | (simp; omega)) _) | assumption))))).mono ?_; rintro e w2 ⟨rfl, hR⟩; obtain ⟨d0, d1, d2, d3, d4, d5, d6, hl2, df⟩ := hR.cells; have HR2 := Lib.hid hR; clear hR)
         rw [HP0.out] at d3
         rw [HE.out] at d5
         have df3 := df 3
         have df4 := df 4
         have df5 := df 5
         clear df
         refine wp_region_bx (by kernel_rfl) (by kernel_rfl) ?_
         repeat (go_big_quiet_step ((go_at_call 93; exact bx_call (HBF.out _ (HR2.out.bl (BX.below _))))))
         refine wpQuiet_nil ?_
         rintro _ ⟨y, rfl⟩
         have HR3 := Lib.hid (HR2.out.bl y.below)
         have hly := y.lt_size hl2
         go_wp2_with (first | (go_at_call 62; refine (HERD.out _ _ ((HR3.out.setRaw HK.out v).setPl HK.out 1 1 rfl)).mono ?_; rintro e w' ⟨rfl, rfl⟩))
         go_ret
         exact ⟨(by show Ending.returned (.bool false) = .returned (.bool r.ended); rw [HE.out]), ((HR3.out.setRaw HK.out v).setPl HK.out 1 1 rfl)⟩
       · have HZ : Hid (({ r with raw := v, place := 1 } : RdS).chk D = ({ r with raw := v, place := 1 } : RdS).fail er) := chk_err HR.out hz
         have hz' : (er != 0) = true := by simpa using hz
         rw [HZ.out]
         clear hz HR
         go_enter Tryz.func67, Tryz.ntmps67
         go_upto_region 8 with (go_at_call 62; refine HER.out.mono ?_; rintro e w' ⟨rfl, rfl⟩)
         refine wp_region_still_n 8 (by kernel_rfl) (by kernel_rfl) ?_
         simp only [List.take_succ_cons, List.take_zero, List.drop_succ_cons, List.drop_zero]
         repeat (go_big_quiet_step (fail))
         refine wpQuiet_nil ?_
         rintro _ ⟨nq, rfl⟩
         go_upto_region 9 with (go_at_call 61; refine (HLD.out _ (H0.out.bl (by (repeat (first | with_reducible (first | exact Below.refl _ _ | refine bl_alloc ?_ _ | refine bl_drew ?_ | refine bl_drewN ?_ _ | refine bl_bx ?_ _ | exact BX.below _ | refine bl_set ?_ (by first | (exact Nat.le_refl _) | (simp; done) | (simp; omega)) _) | assumption))))).mono ?_; rintro e w2 ⟨rfl, hR⟩; obtain ⟨d0, d1, d2, d3, d4, d5, d6, hl2, df⟩ := hR.cells; have HR2 := Lib.hid hR; clear hR)
         rw [HP0.out] at d3
         rw [HE.out] at d5
         have df3 := df 3
         have df4 := df 4
         have df5 := df 5
         clear df
         refine wp_region_bx (by kernel_rfl) (by kernel_rfl) ?_
         repeat (go_big_quiet_step ((go_at_call 93; exact bx_call (HBF.out _ (HR2.out.bl (BX.below _))))))
         refine wpQuiet_nil ?_
         rintro _ ⟨y, rfl⟩
         have HR3 := Lib.hid (HR2.out.bl y.below)
         have hly := y.lt_size hl2
         go_wp2_with (first | (go_at_call 62; refine (HERD.out _ _ ((HR3.out.setRaw HK.out v).setPl HK.out 1 1 rfl)).mono ?_; rintro e w' ⟨rfl, rfl⟩) | (go_at_call 92; refine (HEND.out _ _ _ ((HR3.out.setRaw HK.out v).setPl HK.out 1 1 rfl) er).mono ?_; rintro e w5 ⟨rfl, hR⟩; have HR5 := Lib.hid hR; clear hR))
         go_ret
         exact ⟨rfl, HR5.out⟩
    · have p0' : ((r.place : Int) == 0) = false := by rw [beq_eq_false_iff_ne]; omega
      by_cases p1 : r.place = 1
      · obtain ⟨D, hD⟩ : ∃ D, σ.dev.flush r.th r.off = D := ⟨_, rfl⟩
        have HLD := Lib.hid (fun (W : World) (hW : RdAt K p d t line lines size rb (.pointer (some ⟨p, 0, none⟩)) (.pointer (some ⟨t r.th, 0, none⟩)) w W σ r) => hW.call hK (fun F hF => flushV hF r.th hth hG hN r.off ho))
        rw [hD] at HLD
        have HQ : Hid (σ.rstep r = ({ σ with dev := D }, ({ r with place := 2 } : RdS).chk D)) := by
         show _ = _
         unfold PwS.rstep
         rw [if_neg (by rw [he]; simp), if_neg (by rw [h0]; simp), if_neg p0, if_pos p1, ← hD]
        have HP0 : Hid (r.place = 1) := (show r.place = 1 by omega)
        rw [HP0.out] at c3 p0'
        obtain ⟨σ1, hσ1⟩ : ∃ σ1, ({ σ with dev := D } : PwS) = σ1 := ⟨_, rfl⟩
        have HD1 : Hid (σ1.dev = D) := by show _ = _; rw [← hσ1]
        rw [hσ1] at HLD HQ
        obtain ⟨er, her⟩ : ∃ er, (D.thr r.th).err = er := ⟨_, rfl⟩
        have HERD : Hid (∀ (W : World) (r' : RdS), RdAt K p d t line lines size rb (.pointer (some ⟨p, 0, none⟩)) (.pointer (some ⟨t r.th, 0, none⟩)) w W σ1 r' → Calls Tryz.prog 62 #[(.pointer (some ⟨t r.th, 0, none⟩))] W fun e w' => e = .returned (.int .i64 er) ∧ W = w') := fun W r' h => by have := HERR.out W σ1 r' h; rwa [HD1.out, her] at this
        have HR := Lib.hid her
        clear hC hcu hG hv H he hD hσ1 p0 h0 HERR her HD1 p1 hp
        rw [HQ.out]
        clear HQ
        by_cases hz : er = 0
        · have HZ : Hid (({ r with place := 2 } : RdS).chk D = ({ r with place := 2 } : RdS)) := chk_ok (HR.out.trans hz)
          rw [hz] at HERD
          rw [HZ.out]
          clear hz HR
          go_enter Tryz.func67, Tryz.ntmps67
          go_upto_region 16 with (go_at_call 62; refine HER.out.mono ?_; rintro e w' ⟨rfl, rfl⟩)
          refine wp_region_still_n 8 (by kernel_rfl) (by kernel_rfl) ?_
          simp only [List.take_succ_cons, List.take_zero, List.drop_succ_cons, List.drop_zero]
          repeat (go_big_quiet_step (fail))
          refine wpQuiet_nil ?_
          rintro _ ⟨nq, rfl⟩
          go_wp2_with (first | (go_at_call 94; refine (HLD.out _ (H0.out.bl (by (repeat (first | with_reducible (first | exact Below.refl _ _ | refine bl_alloc ?_ _ | refine bl_drew ?_ | refine bl_drewN ?_ _ | refine bl_bx ?_ _ | exact BX.below _ | refine bl_set ?_ (by first | (exact Nat.le_refl _) | (simp; done) | (simp; omega)) _) | assumption))))).mono ?_; rintro e w2 ⟨rfl, hR⟩; obtain ⟨d0, d1, d2, d3, d4, d5, d6, hl2, df⟩ := hR.cells; have HR2 := Lib.hid hR; clear hR; rw [HP0.out] at d3; rw [HE.out] at d5; have df3 := df 3; have df5 := df 5; clear df) | (go_at_call 62; refine (HERD.out _ _ (HR2.out.setPl HK.out 2 2 rfl)).mono ?_; rintro e w' ⟨rfl, rfl⟩))
          go_ret
          exact ⟨(by show Ending.returned (.bool false) = .returned (.bool r.ended); rw [HE.out]), (HR2.out.setPl HK.out 2 2 rfl)⟩
        · have HZ : Hid (({ r with place := 2 } : RdS).chk D = ({ r with place := 2 } : RdS).fail er) := chk_err HR.out hz
          have hz' : (er != 0) = true := by simpa using hz
          rw [HZ.out]
          clear hz HR
          go_enter Tryz.func67, Tryz.ntmps67
          go_upto_region 16 with (go_at_call 62; refine HER.out.mono ?_; rintro e w' ⟨rfl, rfl⟩)
          refine wp_region_still_n 8 (by kernel_rfl) (by kernel_rfl) ?_
          simp only [List.take_succ_cons, List.take_zero, List.drop_succ_cons, List.drop_zero]
          repeat (go_big_quiet_step (fail))
          refine wpQuiet_nil ?_
          rintro _ ⟨nq, rfl⟩
          go_wp2_with (first | (go_at_call 94; refine (HLD.out _ (H0.out.bl (by (repeat (first | with_reducible (first | exact Below.refl _ _ | refine bl_alloc ?_ _ | refine bl_drew ?_ | refine bl_drewN ?_ _ | refine bl_bx ?_ _ | exact BX.below _ | refine bl_set ?_ (by first | (exact Nat.le_refl _) | (simp; done) | (simp; omega)) _) | assumption))))).mono ?_; rintro e w2 ⟨rfl, hR⟩; obtain ⟨d0, d1, d2, d3, d4, d5, d6, hl2, df⟩ := hR.cells; have HR2 := Lib.hid hR; clear hR; rw [HP0.out] at d3; rw [HE.out] at d5; have df3 := df 3; have df5 := df 5; clear df) | (go_at_call 62; refine (HERD.out _ _ (HR2.out.setPl HK.out 2 2 rfl)).mono ?_; rintro e w' ⟨rfl, rfl⟩) | (go_at_call 92; refine (HEND.out _ _ _ (HR2.out.setPl HK.out 2 2 rfl) er).mono ?_; rintro e w5 ⟨rfl, hR⟩; have HR5 := Lib.hid hR; clear hR))
          go_ret
          exact ⟨rfl, HR5.out⟩
      · obtain ⟨D, hD⟩ : ∃ D, σ.dev.fence r.th = D := ⟨_, rfl⟩
        have HLD := Lib.hid (fun (W : World) (hW : RdAt K p d t line lines size rb (.pointer (some ⟨p, 0, none⟩)) (.pointer (some ⟨t r.th, 0, none⟩)) w W σ r) => hW.call hK (fun F hF => fenceV hF r.th hth hG hN))
        rw [hD] at HLD
        have HQ : Hid (σ.rstep r = ({ σ with dev := D }, ({ r with place := 3, ended := true } : RdS).chk D)) := by
         show _ = _
         unfold PwS.rstep
         rw [if_neg (by rw [he]; simp), if_neg (by rw [h0]; simp), if_neg p0, if_neg p1, ← hD]
        have HP0 : Hid (r.place = 2) := (show r.place = 2 by omega)
        rw [HP0.out] at c3 p0'
        obtain ⟨σ1, hσ1⟩ : ∃ σ1, ({ σ with dev := D } : PwS) = σ1 := ⟨_, rfl⟩
        have HD1 : Hid (σ1.dev = D) := by show _ = _; rw [← hσ1]
        rw [hσ1] at HLD HQ
        obtain ⟨er, her⟩ : ∃ er, (D.thr r.th).err = er := ⟨_, rfl⟩
        have HERD : Hid (∀ (W : World) (r' : RdS), RdAt K p d t line lines size rb (.pointer (some ⟨p, 0, none⟩)) (.pointer (some ⟨t r.th, 0, none⟩)) w W σ1 r' → Calls Tryz.prog 62 #[(.pointer (some ⟨t r.th, 0, none⟩))] W fun e w' => e = .returned (.int .i64 er) ∧ W = w') := fun W r' h => by have := HERR.out W σ1 r' h; rwa [HD1.out, her] at this
        have HR := Lib.hid her
        clear hC hcu hG hv H he hD hσ1 p0 h0 HERR her HD1 p1 hp
        rw [HQ.out]
        clear HQ
        by_cases hz : er = 0
        · have HZ : Hid (({ r with place := 3, ended := true } : RdS).chk D = ({ r with place := 3, ended := true } : RdS)) := chk_ok (HR.out.trans hz)
          rw [hz] at HERD
          rw [HZ.out]
          clear hz HR
          go_enter Tryz.func67, Tryz.ntmps67
          go_upto_region 18 with (go_at_call 62; refine HER.out.mono ?_; rintro e w' ⟨rfl, rfl⟩)
          go_wp2_with (first | (go_at_call 95; refine (HLD.out _ (H0.out.bl (by (repeat (first | with_reducible (first | exact Below.refl _ _ | refine bl_alloc ?_ _ | refine bl_drew ?_ | refine bl_drewN ?_ _ | refine bl_bx ?_ _ | exact BX.below _ | refine bl_set ?_ (by first | (exact Nat.le_refl _) | (simp; done) | (simp; omega)) _) | assumption))))).mono ?_; rintro e w2 ⟨rfl, hR⟩; obtain ⟨d0, d1, d2, d3, d4, d5, d6, hl2, df⟩ := hR.cells; have HR2 := Lib.hid hR; clear hR; rw [HP0.out] at d3; rw [HE.out] at d5; have df3 := df 3; have df5 := df 5; clear df) | (go_at_call 62; refine (HERD.out _ _ ((HR2.out.setEnd HK.out).setPl HK.out 3 3 rfl)).mono ?_; rintro e w' ⟨rfl, rfl⟩))
          go_ret
          exact ⟨rfl, ((HR2.out.setEnd HK.out).setPl HK.out 3 3 rfl)⟩
        · have HZ : Hid (({ r with place := 3, ended := true } : RdS).chk D = ({ r with place := 3, ended := true } : RdS).fail er) := chk_err HR.out hz
          have hz' : (er != 0) = true := by simpa using hz
          rw [HZ.out]
          clear hz HR
          go_enter Tryz.func67, Tryz.ntmps67
          go_upto_region 18 with (go_at_call 62; refine HER.out.mono ?_; rintro e w' ⟨rfl, rfl⟩)
          go_wp2_with (first | (go_at_call 95; refine (HLD.out _ (H0.out.bl (by (repeat (first | with_reducible (first | exact Below.refl _ _ | refine bl_alloc ?_ _ | refine bl_drew ?_ | refine bl_drewN ?_ _ | refine bl_bx ?_ _ | exact BX.below _ | refine bl_set ?_ (by first | (exact Nat.le_refl _) | (simp; done) | (simp; omega)) _) | assumption))))).mono ?_; rintro e w2 ⟨rfl, hR⟩; obtain ⟨d0, d1, d2, d3, d4, d5, d6, hl2, df⟩ := hR.cells; have HR2 := Lib.hid hR; clear hR; rw [HP0.out] at d3; rw [HE.out] at d5; have df3 := df 3; have df5 := df 5; clear df) | (go_at_call 62; refine (HERD.out _ _ ((HR2.out.setEnd HK.out).setPl HK.out 3 3 rfl)).mono ?_; rintro e w' ⟨rfl, rfl⟩) | (go_at_call 92; refine (HEND.out _ _ _ ((HR2.out.setEnd HK.out).setPl HK.out 3 3 rfl) er).mono ?_; rintro e w5 ⟨rfl, hR⟩; have HR5 := Lib.hid hR; clear hR))
          go_ret
          exact ⟨rfl, HR5.out⟩
  · have HQ : Hid (σ.rstep r = (σ, r.fail (σ.dev.thr r.th).err)) := by
     show _ = _
     unfold PwS.rstep
     rw [if_neg (by rw [he]; simp), if_pos h0]
    obtain ⟨er, her⟩ : ∃ er, (σ.dev.thr r.th).err = er := ⟨_, rfl⟩
    rw [her] at HER h0 HQ
    have hz' : (er != 0) = true := by simpa using h0
    clear hC hcu hG hv H he h0 HERR her
    rw [HQ.out]
    go_enter Tryz.func67, Tryz.ntmps67
    go_wp2_with (first | (go_at_call 62; refine HER.out.mono ?_; rintro e w' ⟨rfl, rfl⟩) | (go_at_call 92; refine (HEND.out _ _ _ H0.out er).mono ?_; rintro e w5 ⟨rfl, hR⟩; have HR5 := Lib.hid hR; clear hR))
    go_ret
    exact ⟨rfl, HR5.out⟩
end
end Go.Proofs.YtaefkelaffijbaaGreatDoor
