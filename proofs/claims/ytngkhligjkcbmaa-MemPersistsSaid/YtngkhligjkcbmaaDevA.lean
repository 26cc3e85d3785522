/- Contracts of the functions of a device that read it, and of those that change a thread's error or the device's counters. -/
import Derived.Test.YtngkhligjkcbmaaDev
import Derived.Test.YtngkhligjkcbmaaMin
namespace Go.Proofs.Ytngkhligjkcbmaa
open Go.RowKit
set_option linter.unusedVariables false

section
variable {w w' : World} {d : Nat} {L : Lay} {S S' : DevS}
/-- The block of one thread has changed. -/
theorem Dev.setThr (h : Dev w d L S) {i : Nat} (hi : i < 8) (hb : ∀ b, Fp L b → b ≠ L.t i → w'.heap[b]? = w.heap[b]?) (hs : w.heap.size ≤ w'.heap.size) (e : Int)
    (hc : CB w' (L.t i) 137 #[.pointer (some ⟨d, 0, none⟩), .int .i64 (i : Int), .int .i64 e, .map (some (L.m i))]) :
    Dev w' d L { S with thr := fun j => if j = i then { S.thr i with err := e } else S.thr j } := by
  have hne : ∀ b, Fp L b → L.role b ≠ 5 + i → w'.heap[b]? = w.heap[b]? := fun b hf hr => hb b hf (by rintro rfl; exact hr (h.rt i hi))
  refine { dev := h.dev.keep (hne d (by unfold Fp; rw [h.rd]; omega) (by rw [h.rd]; omega)), pers := h.pers.keep fun b hb' => ?_, cur := h.cur.keep fun b hb' => ?_, np := h.np, nc := h.nc, nl := h.nl, lf := h.lf, ex := h.ex, lin := ?_, his := fun j hj => (h.his j hj).keep fun b hb' => hne b (by unfold Fp; rw [h.rh j hj b hb']; omega) (by rw [h.rh j hj b hb']; omega), thr := fun j hj => ?_, nts := fun j hj => ?_, rd := h.rd, rp := h.rp, rc := h.rc, rl := h.rl, rt := h.rt, rm := h.rm, rh := h.rh, fr := fun b hb' => Nat.lt_of_lt_of_le (h.fr b hb') hs }
  · have : L.pb = b := by simpa [OwnB] using hb'
    subst this
    exact hne _ (by unfold Fp; rw [h.rp]; omega) (by rw [h.rp]; omega)
  · have : L.cb = b := by simpa [OwnB] using hb'
    subst this
    exact hne _ (by unfold Fp; rw [h.rc]; omega) (by rw [h.rc]; omega)
  · obtain ⟨cs, h1, h2⟩ := h.lin
    exact ⟨cs, h1.keep (hne _ (by unfold Fp; rw [h.rl]; omega) (by rw [h.rl]; omega)), h2⟩
  · by_cases hji : j = i
    · subst hji
      simpa [thrCells] using hc
    · have := (h.thr j hj).keep (hne _ (by unfold Fp; rw [h.rt j hj]; omega) (by rw [h.rt j hj]; omega))
      simpa [thrCells, hji] using this
  · have := (h.nts j hj).keep (hne _ (by unfold Fp; rw [h.rm j hj]; omega) (by rw [h.rm j hj]; omega))
    by_cases hji : j = i
    · subst hji; simpa using this
    · simpa [hji] using this
/-- The device's own block has changed. -/
theorem Dev.setDev (h : Dev w d L S) (hb : ∀ b, Fp L b → b ≠ d → w'.heap[b]? = w.heap[b]?) (hs : w.heap.size ≤ w'.heap.size) (off armed : Bool) (left exec : Int) (hlf : 0 ≤ left ∧ left < 9223372036854775808) (hex : 0 ≤ exec ∧ exec < 18446744073709551616)
    (hc : CB w' d 114 (devCells L { S with off := off, armed := armed, left := left, exec := exec })) :
    Dev w' d L { S with off := off, armed := armed, left := left, exec := exec } := by
  have hne : ∀ b, Fp L b → L.role b ≠ 1 → w'.heap[b]? = w.heap[b]? := fun b hf hr => hb b hf (by rintro rfl; exact hr h.rd)
  refine { dev := hc, pers := h.pers.keep fun b hb' => ?_, cur := h.cur.keep fun b hb' => ?_, np := h.np, nc := h.nc, nl := h.nl, lf := hlf, ex := hex, lin := ?_, his := fun j hj => (h.his j hj).keep fun b hb' => hne b (by unfold Fp; rw [h.rh j hj b hb']; omega) (by rw [h.rh j hj b hb']; omega), thr := fun j hj => (h.thr j hj).keep (hne _ (by unfold Fp; rw [h.rt j hj]; omega) (by rw [h.rt j hj]; omega)), nts := fun j hj => (h.nts j hj).keep (hne _ (by unfold Fp; rw [h.rm j hj]; omega) (by rw [h.rm j hj]; omega)), rd := h.rd, rp := h.rp, rc := h.rc, rl := h.rl, rt := h.rt, rm := h.rm, rh := h.rh, fr := fun b hb' => Nat.lt_of_lt_of_le (h.fr b hb') hs }
  · have : L.pb = b := by simpa [OwnB] using hb'
    subst this
    exact hne _ (by unfold Fp; rw [h.rp]; omega) (by rw [h.rp]; omega)
  · have : L.cb = b := by simpa [OwnB] using hb'
    subst this
    exact hne _ (by unfold Fp; rw [h.rc]; omega) (by rw [h.rc]; omega)
  · obtain ⟨cs, h1, h2⟩ := h.lin
    exact ⟨cs, h1.keep (hne _ (by unfold Fp; rw [h.rl]; omega) (by rw [h.rl]; omega)), h2⟩
theorem Dev.pcell (h : Dev w d L S) : w.cell? ⟨d, 0, none⟩ = some (.slice (some ⟨L.pb, 0, none⟩) S.pers.length L.pc) := h.dev.cell 0
theorem Dev.ccell (h : Dev w d L S) : w.cell? ⟨d, 1, none⟩ = some (.slice (some ⟨L.cb, 0, none⟩) S.cur.length L.cc) := h.dev.cell 1
theorem Dev.lcell (h : Dev w d L S) : w.cell? ⟨d, 2, none⟩ = some (.slice (some ⟨L.lb, 0, none⟩) S.lns.length S.lns.length) := h.dev.cell 2
theorem Dev.ocell (h : Dev w d L S) : w.cell? ⟨d, 11, none⟩ = some (.bool S.off) := h.dev.cell 11
theorem Dev.acell (h : Dev w d L S) : w.cell? ⟨d, 12, none⟩ = some (.bool S.armed) := h.dev.cell 12
theorem Dev.fcell (h : Dev w d L S) : w.cell? ⟨d, 13, none⟩ = some (.int .i64 S.left) := h.dev.cell 13
theorem Dev.xcell (h : Dev w d L S) : w.cell? ⟨d, 14, none⟩ = some (.int .u64 S.exec) := h.dev.cell 14
theorem Dev.t0 (h : Dev w d L S) {i : Nat} (hi : i < 8) : w.cell? ⟨L.t i, 0, none⟩ = some (.pointer (some ⟨d, 0, none⟩)) := (h.thr i hi).cell 0
theorem Dev.t1 (h : Dev w d L S) {i : Nat} (hi : i < 8) : w.cell? ⟨L.t i, 1, none⟩ = some (.int .i64 (i : Int)) := (h.thr i hi).cell 1
theorem Dev.t2 (h : Dev w d L S) {i : Nat} (hi : i < 8) : w.cell? ⟨L.t i, 2, none⟩ = some (.int .i64 (S.thr i).err) := (h.thr i hi).cell 2
theorem Dev.t3 (h : Dev w d L S) {i : Nat} (hi : i < 8) : w.cell? ⟨L.t i, 3, none⟩ = some (.map (some (L.m i))) := (h.thr i hi).cell 3
end

def DevS.setErr (S : DevS) (i : Nat) (e : Int) : DevS := { S with thr := fun j => if j = i then { S.thr i with err := e } else S.thr j }
def DevS.fail (S : DevS) (i : Nat) (e : Int) : DevS := if (S.thr i).err = 0 then S.setErr i e else S

set_option maxHeartbeats 400000 in
theorem devLines (w : World) (d : Nat) (L : Lay) (S : DevS) (h : Dev w d L S) :
    Calls Try.prog 65 #[.pointer (some ⟨d, 0, none⟩)] w fun e w' => e = .returned (.int .i64 (S.lns.length : Int)) ∧ w = w' := by
  have h2 := h.lcell
  have hl := h.lt
  clear h
  go_enter Try.func65, Try.ntmps65
  go_wp2
  go_ret
  exact ⟨rfl, rfl⟩

set_option maxHeartbeats 400000 in
theorem devSize (w : World) (d : Nat) (L : Lay) (S : DevS) (h : Dev w d L S) :
    Calls Try.prog 105 #[.pointer (some ⟨d, 0, none⟩)] w fun e w' => e = .returned (.int .u64 ((S.lns.length : Int) * 64)) ∧ w = w' := by
  have hn := h.nl
  have H := Lib.hid h
  have e1 : IntKind.u64.wrap (S.lns.length : Int) = (S.lns.length : Int) := IntWalk.u64_in _ (by omega)
  have e2 : IntKind.u64.wrap ((S.lns.length : Int) * 64) = (S.lns.length : Int) * 64 := IntWalk.u64_in _ (by omega)
  clear h
  go_enter Try.func105, Try.ntmps105
  go_wp2_with (go_at_call 65; refine (devLines _ d L S H.out).mono ?_; rintro e w' ⟨rfl, rfl⟩)
  go_ret
  exact ⟨rfl, rfl⟩

set_option maxHeartbeats 400000 in
theorem devThread (w : World) (d : Nat) (L : Lay) (S : DevS) (h : Dev w d L S) (i : Nat) (hi : i < 8) :
    Calls Try.prog 22 #[.pointer (some ⟨d, 0, none⟩), .int .i64 (i : Int)] w fun e w' => e = .returned (.pointer (some ⟨L.t i, 0, none⟩)) ∧ w = w' := by
  have ht := h.tcell hi
  have hl := h.lt
  have h1 : ¬ (8 : Int) ≤ (i : Int) := by omega
  clear h
  go_enter Try.func22, Try.ntmps22
  go_wp2
  go_ret
  exact ⟨rfl, rfl⟩

set_option maxHeartbeats 400000 in
theorem thErr (w : World) (d : Nat) (L : Lay) (S : DevS) (h : Dev w d L S) (i : Nat) (hi : i < 8) :
    Calls Try.prog 51 #[.pointer (some ⟨L.t i, 0, none⟩)] w fun e w' => e = .returned (.int .i64 (S.thr i).err) ∧ w = w' := by
  have h0 := h.t0 hi
  have h2 := h.t2 hi
  have hl := h.tlt hi
  clear h
  go_enter Try.func51, Try.ntmps51
  go_wp2
  go_ret
  exact ⟨rfl, rfl⟩

set_option maxHeartbeats 400000 in
theorem thSize (w : World) (d : Nat) (L : Lay) (S : DevS) (h : Dev w d L S) (i : Nat) (hi : i < 8) :
    Calls Try.prog 155 #[.pointer (some ⟨L.t i, 0, none⟩)] w fun e w' => e = .returned (.int .u64 ((S.lns.length : Int) * 64)) ∧ w = w' := by
  have h0 := h.t0 hi
  have hl := h.tlt hi
  have H := Lib.hid h
  clear h
  go_enter Try.func155, Try.ntmps155
  go_wp2_with (go_at_call 105; refine (devSize _ d L S H.out).mono ?_; rintro e w' ⟨rfl, rfl⟩)
  go_ret
  exact ⟨rfl, rfl⟩
end Go.Proofs.Ytngkhligjkcbmaa
