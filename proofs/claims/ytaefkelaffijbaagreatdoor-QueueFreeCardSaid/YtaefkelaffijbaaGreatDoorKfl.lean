/- A queue in memory: a call goes on (merged). -/
import Derived.Test.YtaefkelaffijbaaGreatDoorKfj
import Derived.Test.YtaefkelaffijbaaGreatDoorKfg
import Derived.Test.YtaefkelaffijbaaGreatDoorKfs
import Derived.Test.YtaefkelaffijbaaGreatDoorKfk
import Derived.Test.YtaefkelaffijbaaGreatDoorKfh
namespace Go.Proofs.YtaefkelaffijbaaGreatDoor
open Go.RowKit
set_option linter.unusedVariables false
set_option linter.unusedSimpArgs false
/-- The cells of a queue; bs: the operations that are in progress, by threads. -/
def qcells (d p : Nat) (base : Int) (lines : Nat) (bs : Nat → Option Nat) : Array Value :=
 #[.pointer (some ⟨d, 0, none⟩), .pointer (some ⟨p, 0, none⟩), .int .u64 base, .int .i64 lines, optP (bs 0), optP (bs 1), optP (bs 2), optP (bs 3), optP (bs 4), optP (bs 5), optP (bs 6), optP (bs 7)]
/-- The cells of a call. -/
def qocells (q th : Nat) (ins : Bool) (val : Int) (s : Nat) (rd ch : Option Nat) (f c e : Int) (ended : Bool) : Array Value :=
 #[.pointer (some ⟨q, 0, none⟩), .int .i64 th, .bool ins, .int .u64 val, .int .u8 s, optP rd, optP ch, .int .u64 f, .int .u64 c, .int .i64 e, .bool ended]
section
variable {q d p lines : Nat} {base : Int} {bs : Nat → Option Nat} {w : World}
structure QCells (w : World) (q d p : Nat) (base : Int) (lines : Nat) : Prop where
 c0 : w.cell? ⟨q, 0, none⟩ = some (.pointer (some ⟨d, 0, none⟩))
 c1 : w.cell? ⟨q, 1, none⟩ = some (.pointer (some ⟨p, 0, none⟩))
 c2 : w.cell? ⟨q, 2, none⟩ = some (.int .u64 base)
 c3 : w.cell? ⟨q, 3, none⟩ = some (.int .i64 lines)
 lt : q < w.heap.size
theorem CB.qc (h : CB w q 93 (qcells d p base lines bs)) : QCells w q d p base lines := ⟨h.cell 0, h.cell 1, h.cell 2, h.cell 3, h.lt⟩
theorem QCells.bl {w' : World} (h : QCells w q d p base lines) (hB : Below w.heap.size w w') : QCells w' q d p base lines := by
 have hc : ∀ o, w'.cell? ⟨q, o, none⟩ = w.cell? ⟨q, o, none⟩ := fun o => hB.cell (p := ⟨q, o, none⟩) h.lt
 exact ⟨by rw [hc]; exact h.c0, by rw [hc]; exact h.c1, by rw [hc]; exact h.c2, by rw [hc]; exact h.c3, Nat.lt_of_lt_of_le h.lt hB.size⟩
set_option maxRecDepth 100000 in
theorem quWord (h : QCells w q d p base lines) (k : Nat) (hk : k < 1000) (hb : 0 ≤ base ∧ base < 1000000) :
 Calls Tryz.prog 60 #[.pointer (some ⟨q, 0, none⟩), .int .i64 (k : Int)] w fun e w' => e = .returned (.int .u64 (base + 8 * (k : Int))) ∧ w = w' := by
 obtain ⟨c0, c1, c2, c3, hl⟩ := h
 have e1 : IntKind.u64.wrap (k : Int) = (k : Int) := IntWalk.u64_in _ (by omega)
 have e2 : IntKind.u64.wrap (8 * (k : Int)) = 8 * (k : Int) := IntWalk.u64_in _ (by omega)
 have e3 : IntKind.u64.wrap (base + 8 * (k : Int)) = base + 8 * (k : Int) := IntWalk.u64_in _ (by omega)
 go_enter Tryz.func60, Tryz.ntmps60
 go_wp2
 go_ret
 exact ⟨rfl, rfl⟩
set_option maxRecDepth 100000 in
theorem quPlaces (h : QCells w q d p base lines) (hl1 : 1 ≤ lines) (hl2 : lines < 1000) :
 Calls Tryz.prog 44 #[.pointer (some ⟨q, 0, none⟩)] w fun e w' => e = .returned (.int .u64 ((8 * (lines - 1) : Nat) : Int)) ∧ w = w' := by
 obtain ⟨c0, c1, c2, c3, hl⟩ := h
 obtain ⟨P, hP⟩ : ∃ P, 8 * (lines - 1) = P := ⟨_, rfl⟩
 rw [hP]
 have e1 : IntKind.i64.wrap ((lines : Int) - 1) = (lines : Int) - 1 := IntWalk.i64_in _ (by omega)
 have e2 : IntKind.u64.wrap ((lines : Int) - 1) = (lines : Int) - 1 := IntWalk.u64_in _ (by omega)
 have e3 : IntKind.u64.wrap (((lines : Int) - 1) * 8) = (P : Int) := by rw [IntWalk.u64_in _ (by omega)]; omega
 go_enter Tryz.func44, Tryz.ntmps44
 go_wp2
 go_ret
 exact ⟨rfl, rfl⟩
set_option maxRecDepth 100000 in
theorem quPlace (h : QCells w q d p base lines) {P : Nat} (hP : 8 * (lines - 1) = P) (hl1 : 2 ≤ lines) (hl2 : lines < 1000) (x : Nat) (hx : x < 1000000) (hb : 0 ≤ base ∧ base < 1000000) :
 Calls Tryz.prog 42 #[.pointer (some ⟨q, 0, none⟩), .int .u64 (x : Int)] w fun e w' => e = .returned (.int .u64 (base + 64 + 8 * ((x % P : Nat) : Int))) ∧ ∃ n, w' = w.drewN n := by
 have HPL : Hid (∀ W, Below w.heap.size w W → Calls Tryz.prog 44 #[.pointer (some ⟨q, 0, none⟩)] W fun e w' => e = .returned (.int .u64 (P : Int)) ∧ W = w') := fun W hW => by
  have := quPlaces (h.bl hW) (by omega) hl2; rwa [hP] at this
 obtain ⟨c0, c1, c2, c3, hl⟩ := h
 have hP0 : ¬ (P : Int) = 0 := by omega
 have hr : (x : Int) % (P : Int) = ((x % P : Nat) : Int) := by omega
 have hrl : x % P < P := Nat.mod_lt _ (by omega)
 obtain ⟨y, hy⟩ : ∃ y, x % P = y := ⟨_, rfl⟩
 rw [hy] at hr hrl ⊢
 have e0 : IntKind.u64.wrap (y : Int) = (y : Int) := IntWalk.u64_in _ (by omega)
 have e1 : IntKind.u64.wrap (base + 64) = base + 64 := IntWalk.u64_in _ (by omega)
 have e2 : IntKind.u64.wrap (8 * (y : Int)) = 8 * (y : Int) := IntWalk.u64_in _ (by omega)
 have e3 : IntKind.u64.wrap (base + 64 + 8 * (y : Int)) = base + 64 + 8 * (y : Int) := IntWalk.u64_in _ (by omega)
 have hrt : (x : Int).tmod (P : Int) = (y : Int) := by rw [Int.tmod_eq_emod_of_nonneg (by omega)]; exact hr
 clear hP hy
 go_enter Tryz.func42, Tryz.ntmps42
 go_wp2
 go_quiet ((go_at_call 44; exact q_same (HPL.out _ (by (repeat (first | with_reducible (first | exact Below.refl _ _ | refine bl_alloc ?_ _ | refine bl_drew ?_ | refine bl_drewN ?_ _ | refine bl_bx ?_ _ | exact BX.below _ | refine bl_set ?_ (by first | (exact Nat.le_refl _) | (simp; done) | (simp; omega)) _) | assumption))))))
 go_wp2
 go_ret
 exact ⟨rfl, _, rfl⟩
end
section
variable {K : Nat → Prop} {p d q a lines n : Nat} {t : Nat → Nat} {size : Int} {w w' : World} {σ : PwS} {base : Int} {bs : Nat → Option Nat}
structure OCells (w : World) (a q th : Nat) (ins : Bool) (val : Int) (s : Nat) (rd ch : Option Nat) (f c e : Int) (ended : Bool) : Prop where
 c0 : w.cell? ⟨a, 0, none⟩ = some (.pointer (some ⟨q, 0, none⟩))
 c1 : w.cell? ⟨a, 1, none⟩ = some (.int .i64 th)
 c2 : w.cell? ⟨a, 2, none⟩ = some (.bool ins)
 c3 : w.cell? ⟨a, 3, none⟩ = some (.int .u64 val)
 c4 : w.cell? ⟨a, 4, none⟩ = some (.int .u8 s)
 c5 : w.cell? ⟨a, 5, none⟩ = some (optP rd)
 c6 : w.cell? ⟨a, 6, none⟩ = some (optP ch)
 c7 : w.cell? ⟨a, 7, none⟩ = some (.int .u64 f)
 c8 : w.cell? ⟨a, 8, none⟩ = some (.int .u64 c)
 c9 : w.cell? ⟨a, 9, none⟩ = some (.int .i64 e)
 c10 : w.cell? ⟨a, 10, none⟩ = some (.bool ended)
 lt : a < w.heap.size
 fr : ∀ i, w.frozen? ⟨a, i, none⟩ = false
theorem CB.oc {th s : Nat} {ins ended : Bool} {val f c e : Int} {rd ch : Option Nat} (h : CB w a 106 (qocells q th ins val s rd ch f c e ended)) : OCells w a q th ins val s rd ch f c e ended :=
 ⟨h.cell 0, h.cell 1, h.cell 2, h.cell 3, h.cell 4, h.cell 5, h.cell 6, h.cell 7, h.cell 8, h.cell 9, h.cell 10, h.lt, fun i => h.frozen i⟩
set_option maxRecDepth 100000 in
set_option maxHeartbeats 4000000 in
theorem qoLoad (H : PMx K p d t 0 32 ((n : Int) * 64) w σ) (hn : n < 1000) (hKa : K a) (hq : CB w q 93 (qcells d p base lines bs)) {th s0 : Nat} {ins : Bool} {val f c : Int} {rd0' ch : Option Nat} (hc : CB w a 106 (qocells q th ins val s0 rd0' ch f c 0 false))
 (hth : th < 8) (s : Nat) (k : Nat) (hk : 256 ≤ k ∧ k < 8 * n) :
 Calls Tryz.prog 66 #[.pointer (some ⟨a, 0, none⟩), .int .u8 (s : Int), .int .u64 (8 * (k : Int))] w fun e w' => ∃ g, e = .returned (.tuple #[]) ∧ w.heap.size ≤ g ∧ CB w' a 106 (qocells q th ins val s (some g) ch f c 0 false) ∧
  CB w' g 168 (rdcells (.pointer (some ⟨p, 0, none⟩)) (.pointer (some ⟨t th, 0, none⟩)) ⟨th, 8 * (k : Int), 0, 0, false, 0⟩) ∧ PMx (fun b => K b ∨ (w.heap.size ≤ b ∧ b < w'.heap.size)) p d t 0 32 ((n : Int) * 64) w' σ ∧ Ch (At a) w w' := by
 have ho : outB 0 32 n (8 * (k : Int)) = true := by unfold outB; simp; omega
 have HRD := Lib.hid (fun (W : World) (hW : Below w.heap.size w W) => pwRead (H.bl0 hW) (by omega) (by omega) th hth (8 * (k : Int)) (by omega) ho)
 have HP := Lib.hid H
 have HC := Lib.hid hc
 obtain ⟨q0, q1, q2, q3, ql⟩ := hq.qc
 obtain ⟨c0, c1, c2, c3, c4, c5, c6, c7, c8, c9, c10, hl, hf⟩ := hc.oc
 have f4 := hf 4
 have f5 := hf 5
 have HFIN : Hid (∀ (X : World) (g : Nat), Below w.heap.size w X → w.heap.size ≤ g → CB X g 168 (rdcells (.pointer (some ⟨p, 0, none⟩)) (.pointer (some ⟨t th, 0, none⟩)) ⟨th, 8 * (k : Int), 0, 0, false, 0⟩) →
  CB ((X.setCell ⟨a, 4, none⟩ (.int .u8 (s : Int))).setCell ⟨a, 5, none⟩ (.pointer (some ⟨g, 0, none⟩))) a 106 (qocells q th ins val s (some g) ch f c 0 false) ∧
  CB ((X.setCell ⟨a, 4, none⟩ (.int .u8 (s : Int))).setCell ⟨a, 5, none⟩ (.pointer (some ⟨g, 0, none⟩))) g 168 (rdcells (.pointer (some ⟨p, 0, none⟩)) (.pointer (some ⟨t th, 0, none⟩)) ⟨th, 8 * (k : Int), 0, 0, false, 0⟩) ∧
  PMx (fun b => K b ∨ (w.heap.size ≤ b ∧ b < ((X.setCell ⟨a, 4, none⟩ (.int .u8 (s : Int))).setCell ⟨a, 5, none⟩ (.pointer (some ⟨g, 0, none⟩))).heap.size)) p d t 0 32 ((n : Int) * 64) ((X.setCell ⟨a, 4, none⟩ (.int .u8 (s : Int))).setCell ⟨a, 5, none⟩ (.pointer (some ⟨g, 0, none⟩))) σ ∧
  Ch (At a) w ((X.setCell ⟨a, 4, none⟩ (.int .u8 (s : Int))).setCell ⟨a, 5, none⟩ (.pointer (some ⟨g, 0, none⟩)))) := fun X g hB hg hG => by
  have hne : g ≠ a := by have := HC.out.lt; omega
  have h1 : CB X a 106 (qocells q th ins val s0 rd0' ch f c 0 false) := HC.out.below hB
  have hC2 : Ch (At a) X ((X.setCell ⟨a, 4, none⟩ (.int .u8 (s : Int))).setCell ⟨a, 5, none⟩ (.pointer (some ⟨g, 0, none⟩))) := ((Ch.refl _ _).set1 _ _).set1 _ _
  refine ⟨(h1.set 4 _).set 5 _, (hG.far (p := ⟨a, 4, none⟩) hne _).far (p := ⟨a, 5, none⟩) hne _, ?_, (Ch.of_below (S := At a) hB).trans hC2 (fun b hb _ => hb)⟩
  have hz : ((X.setCell ⟨a, 4, none⟩ (.int .u8 (s : Int))).setCell ⟨a, 5, none⟩ (.pointer (some ⟨g, 0, none⟩))).heap.size = X.heap.size := by simp
  rw [hz]
  exact (HP.out.bl hB).chK hC2 (fun b _ hb => .inl (by rw [show b = a from hb]; exact hKa))
 clear H hq hc hf ho hth hk
 go_enter Tryz.func66, Tryz.ntmps66
 go_wp2
 go_region_with (go_at_call 91; refine (HRD.out _ (by (repeat (first | with_reducible (first | exact Below.refl _ _ | refine bl_alloc ?_ _ | refine bl_drew ?_ | refine bl_drewN ?_ _ | refine bl_bx ?_ _ | exact BX.below _ | refine bl_set ?_ (by first | (exact Nat.le_refl _) | (simp; done) | (simp; omega)) _) | assumption)))).mono ?_; rintro e w3 ⟨g, rfl, hG, hg, hb⟩; obtain ⟨x, rfl⟩ := bx_of hb; have HG := Lib.hid hG; have HGL := Lib.hid hg; clear hG hb hg)
 all_goals
  go_end0
  exact ⟨g, rfl, by have := HGL.out; have h2 := x.size; simp at this; omega, HFIN.out _ g (by (repeat (first | with_reducible (first | exact Below.refl _ _ | refine bl_alloc ?_ _ | refine bl_drew ?_ | refine bl_drewN ?_ _ | refine bl_bx ?_ _ | exact BX.below _ | refine bl_set ?_ (by first | (exact Nat.le_refl _) | (simp; done) | (simp; omega)) _) | assumption))) (by have := HGL.out; have h2 := x.size; simp at this; omega) HG.out⟩
end
theorem qcells_get {d p lines th : Nat} {base : Int} {bs : Nat → Option Nat} (h : th < 8) : (qcells d p base lines bs)[4 + th]? = some (optP (bs th)) := by
 rcases (by omega : th = 0 ∨ th = 1 ∨ th = 2 ∨ th = 3 ∨ th = 4 ∨ th = 5 ∨ th = 6 ∨ th = 7) with rfl | rfl | rfl | rfl | rfl | rfl | rfl | rfl <;> rfl
theorem qcells_set {d p lines th : Nat} {base : Int} {bs : Nat → Option Nat} (h : th < 8) (x : Option Nat) : (qcells d p base lines bs).setIfInBounds (4 + th) (optP x) = qcells d p base lines (fun i => if i = th then x else bs i) := by
 rcases (by omega : th = 0 ∨ th = 1 ∨ th = 2 ∨ th = 3 ∨ th = 4 ∨ th = 5 ∨ th = 6 ∨ th = 7) with rfl | rfl | rfl | rfl | rfl | rfl | rfl | rfl <;> rfl
theorem CB.qth {w : World} {q d p lines th : Nat} {base : Int} {bs : Nat → Option Nat} (h : CB w q 93 (qcells d p base lines bs)) (hth : th < 8) : w.cell? ⟨q, 4 + th, none⟩ = some (optP (bs th)) := (h.cell (4 + th)).trans (qcells_get hth)
theorem info_op30 : ∃ j, Tryz.prog.info? 106 = some j ∧ j.size ≠ 0 := by
 have h : (Tryz.prog.info? 106).map (fun i => decide (i.size ≠ 0)) = some true := by kernel_rfl
 cases hi : Tryz.prog.info? 106 with
 | none => rw [hi] at h; cases h
 | some j => rw [hi] at h; exact ⟨j, rfl, by simpa using h⟩
theorem eql_op30 (W : World) (a : Nat) : (binOp .eql 37 (.pointer (some ⟨a, 0, none⟩)) (.pointer (some ⟨a, 0, none⟩))).run Tryz.prog W = .ok (.bool true) W := by
 obtain ⟨j, hj, _⟩ := info_op30
 exact run_eql_ptr_same W _ Tryz.underlying37 hj
section
variable {p d q a lines n : Nat} {w w' : World} {base : Int} {bs : Nat → Option Nat}
set_option maxRecDepth 100000 in
set_option maxHeartbeats 4000000 in
theorem qoEnd (hq : CB w q 93 (qcells d p base lines bs)) (hqa : q ≠ a) {th s : Nat} {ins : Bool} {val f c : Int} {rd ch : Option Nat} (hc : CB w a 106 (qocells q th ins val s rd ch f c 0 false))
 (hth : th < 8) (hbs : bs th = some a) (e : Int) :
 Calls Tryz.prog 89 #[.pointer (some ⟨a, 0, none⟩), .int .i64 e] w fun r w' => r = .returned (.tuple #[]) ∧ CB w' a 106 (qocells q th ins val s none none f c e true) ∧
  CB w' q 93 (qcells d p base lines (fun i => if i = th then none else bs i)) ∧ Ch (fun b => b = a ∨ b = q) w w' := by
 have HC := Lib.hid hc
 have HQ := Lib.hid hq
 obtain ⟨q0, q1, q2, q3, ql⟩ := hq.qc
 have qt := hq.qth hth
 rw [hbs, optP_some] at qt
 have qf := hq.frozen (4 + th)
 obtain ⟨c0, c1, c2, c3, c4, c5, c6, c7, c8, c9, c10, hl, hf⟩ := hc.oc
 have f5 := hf 5
 have f6 := hf 6
 have f9 := hf 9
 have f10 := hf 10
 have hthI : (th : Int) < 8 := by omega
 have hS := Lib.hid (qcells_set (d := d) (p := p) (lines := lines) (base := base) (bs := bs) hth none)
 have heq := fun W => eql_op30 W a
 obtain ⟨W1, hW1⟩ : ∃ W1, W1 = ((((w.setCell ⟨a, 9, none⟩ (.int .i64 e)).setCell ⟨a, 10, none⟩ (.bool true)).setCell ⟨a, 5, none⟩ (.pointer none)).setCell ⟨a, 6, none⟩ (.pointer none)) := ⟨_, rfl⟩
 have HFIN : Hid (∀ W2, Below W1.heap.size W1 W2 → CB (W2.setCell ⟨q, 4 + th, none⟩ (.pointer none)) a 106 (qocells q th ins val s none none f c e true) ∧
  CB (W2.setCell ⟨q, 4 + th, none⟩ (.pointer none)) q 93 (qcells d p base lines (fun i => if i = th then none else bs i)) ∧ Ch (fun b => b = a ∨ b = q) w (W2.setCell ⟨q, 4 + th, none⟩ (.pointer none))) := fun W2 hB => by
  have hC1 : Ch (At a) w W1 := by rw [hW1]; exact ((((Ch.refl _ _).set1 _ _).set1 _ _).set1 _ _).set1 _ _
  have h1 : CB W1 a 106 (qocells q th ins val s none none f c e true) := by rw [hW1]; exact (((HC.out.set 9 _).set 10 _).set 5 _).set 6 _
  have h2 : CB W1 q 93 (qcells d p base lines bs) := HQ.out.keep (hC1.block q HQ.out.lt hqa)
  have h3 := (h2.below hB).set (4 + th) (optP none)
  rw [hS.out] at h3
  refine ⟨(h1.below hB).far (p := ⟨q, 4 + th, none⟩) (Ne.symm hqa) _, h3, ?_⟩
  exact ((hC1.mono (fun b hb _ => .inl hb)).trans (Ch.of_below (S := fun b => b = a ∨ b = q) hB) (fun b hb _ => hb)).trans (((Ch.refl (At q) W2).set1 _ _).mono (fun b hb _ => .inr hb)) (fun b hb _ => hb)
 rw [hW1] at HFIN
 clear hW1
 clear hq hc hf hbs
 go_enter Tryz.func89, Tryz.ntmps89
 go_wp2
 go_quiet (fail)
 go_wp2
 go_region_with (fail)
 all_goals
  go_end0
  exact ⟨rfl, HFIN.out _ (by (repeat (first | with_reducible (first | exact Below.refl _ _ | refine bl_alloc ?_ _ | refine bl_drew ?_ | refine bl_drewN ?_ _ | refine bl_bx ?_ _ | exact BX.below _ | refine bl_set ?_ (by first | (exact Nat.le_refl _) | (simp; done) | (simp; omega)) _) | assumption)))⟩
end
theorem range_find {n k : Nat} {p : Nat → Bool} (hk : k < n) (h : p k = true) (hn : ∀ q, q < k → p q = false) : (List.range n).find? p = some k := by
 rw [List.find?_range_eq_some]
 exact ⟨h, by simpa using hk, fun j hj => by simp [hn j hj]⟩
/-- Three entries in a new block. -/
theorem esv_new {w : World} {g : Nat} {e0 e1 e2 : Ent} (h : CB w g 174 #[.int .u64 e0.off, .int .u64 e0.old, .int .u64 e0.new, .bool e0.ex, .int .u64 e1.off, .int .u64 e1.old, .int .u64 e1.new, .bool e1.ex, .int .u64 e2.off, .int .u64 e2.old, .int .u64 e2.new, .bool e2.ex]) : EsV w (some ⟨g, 0, none⟩) 3 3 [e0, e1, e2] := by
 refine ⟨rfl, by omega, fun k hk => ⟨g, 0, rfl, h.lt, ?_⟩⟩
 have hk3 : k < 3 := hk
 rcases (by omega : k = 0 ∨ k = 1 ∨ k = 2) with rfl | rfl | rfl
 · exact ⟨h.cell 0, h.cell 1, h.cell 2, h.cell 3⟩
 · exact ⟨h.cell 4, h.cell 5, h.cell 6, h.cell 7⟩
 · exact ⟨h.cell 8, h.cell 9, h.cell 10, h.cell 11⟩
section
variable {K : Nat → Prop} {p d q a lines n : Nat} {t : Nat → Nat} {w w' : World} {σ : PwS} {bs : Nat → Option Nat}
set_option maxRecDepth 100000 in
set_option maxHeartbeats 8000000 in
theorem qoCommit (H : PMx K p d t 0 32 ((n : Int) * 64) w σ) (hn : n < 1000) (hKa : K a) (hKq : K q) (hq : CB w q 93 (qcells d p 2048 lines bs)) (hqa : q ≠ a) {th s k : Nat} {ins : Bool} {val f c : Int} {rd : Option Nat} (hc : CB w a 106 (qocells q th ins val s rd none f c 0 false))
 (hth : th < 8) (herr : (σ.dev.thr th).err = 0) (off0 old0 new0 f' c' : Int) (hr0 : 0 ≤ off0 ∧ off0 < 18446744073709551616 ∧ 0 ≤ old0 ∧ old0 < 18446744073709551616) (hrf : 0 ≤ f ∧ f < 18446744073709551616) (hrc : 0 ≤ c ∧ c < 18446744073709551616)
 (hg : entsB 0 32 n [⟨off0, old0, new0, false⟩, ⟨2064, f, f', false⟩, ⟨2072, c, c', false⟩] 3 = true) (hk : idxB σ.busy = some k) (hbl : σ.busy.length ≤ 100000) :
 Calls Tryz.prog 97 #[.pointer (some ⟨a, 0, none⟩), .agg #[.int .u64 off0, .int .u64 old0, .int .u64 new0, .bool false], .int .u64 f', .int .u64 c'] w fun e w' => ∃ x order, e = .returned (.tuple #[]) ∧ w.heap.size ≤ x ∧ order.Perm (List.range 3) ∧
  CB w' a 106 (qocells q th ins val s rd (some x) f c 0 false) ∧ PMx K p d t 0 32 ((n : Int) * 64) w' { σ.setOp x (newOp k th [⟨off0, old0, new0, false⟩, ⟨2064, f, f', false⟩, ⟨2072, c, c', false⟩] order) with busy := σ.busy.set k true } ∧ Ch (fun b => ¬ K b ∨ b = a) w w' := by
 have HPB := Lib.hid (fun (W : World) (hW : Below w.heap.size w W) (g : Nat) (hE : CB W g 174 #[.int .u64 off0, .int .u64 old0, .int .u64 new0, .bool false, .int .u64 2064, .int .u64 f, .int .u64 f', .bool false, .int .u64 2072, .int .u64 c, .int .u64 c', .bool false]) =>
  pwBegin (H.bl hW) (by omega) (by omega) th hth herr g 0 3 3 k _ rfl (by omega) (by omega) (esv_new (e0 := ⟨off0, old0, new0, false⟩) (e1 := ⟨2064, f, f', false⟩) (e2 := ⟨2072, c, c', false⟩) hE) (fun e he => by
   rcases List.mem_cons.1 he with rfl | he
   · exact hr0
   · rcases List.mem_cons.1 he with rfl | he
     · exact ⟨by show (0 : Int) ≤ 2064; omega, by show (2064 : Int) < _; omega, hrf.1, hrf.2⟩
     · rcases List.mem_cons.1 he with rfl | he
       · exact ⟨by show (0 : Int) ≤ 2072; omega, by show (2072 : Int) < _; omega, hrc.1, hrc.2⟩
       · simp at he) hg hk hbl)
 have HW2 : Hid (∀ W, Below w.heap.size w W → Calls Tryz.prog 60 #[.pointer (some ⟨q, 0, none⟩), .int .i64 2] W fun e w' => e = .returned (.int .u64 2064) ∧ W = w') := fun W hW => by
  have := quWord (hq.qc.bl hW) 2 (by omega) (by omega); simpa using this
 have HW3 : Hid (∀ W, Below w.heap.size w W → Calls Tryz.prog 60 #[.pointer (some ⟨q, 0, none⟩), .int .i64 3] W fun e w' => e = .returned (.int .u64 2072) ∧ W = w') := fun W hW => by
  have := quWord (hq.qc.bl hW) 3 (by omega) (by omega); simpa using this
 have HC := Lib.hid hc
 have HKA := Lib.hid hKa
 have HKQ := Lib.hid hKq
 obtain ⟨q0, q1, q2, q3, ql⟩ := hq.qc
 obtain ⟨c0, c1, c2, c3, c4, c5, c6, c7, c8, c9, c10, hl, hf⟩ := hc.oc
 clear H hq hc hf hg hk hbl herr hth hr0 hrf hrc hKa hKq c2 c3 c4 c5 c6 c9 c10 q0 q2 q3
 go_enter Tryz.func97, Tryz.ntmps97
 go_upto_region 1 with (fail)
 obtain ⟨gb, hgb⟩ : ∃ gb, w.heap.size = gb := ⟨_, rfl⟩
 have HGB := Lib.hid hgb
 have HB0 : Hid (Below w.heap.size w (w.alloc (.cells #[.int .u64 off0, .int .u64 old0, .int .u64 new0, .bool false] 174))) := bl_alloc (Below.refl _ _) _
 have z0 : (w.alloc (.cells #[.int .u64 off0, .int .u64 old0, .int .u64 new0, .bool false] 174)).cell? ⟨w.heap.size, 0, none⟩ = some (.int .u64 off0) := by go_simp
 have z1 : (w.alloc (.cells #[.int .u64 off0, .int .u64 old0, .int .u64 new0, .bool false] 174)).cell? ⟨w.heap.size, 1, none⟩ = some (.int .u64 old0) := by go_simp
 have z2 : (w.alloc (.cells #[.int .u64 off0, .int .u64 old0, .int .u64 new0, .bool false] 174)).cell? ⟨w.heap.size, 2, none⟩ = some (.int .u64 new0) := by go_simp
 have z3 : (w.alloc (.cells #[.int .u64 off0, .int .u64 old0, .int .u64 new0, .bool false] 174)).cell? ⟨w.heap.size, 3, none⟩ = some (.bool false) := by go_simp
 have zl : w.heap.size < (w.alloc (.cells #[.int .u64 off0, .int .u64 old0, .int .u64 new0, .bool false] 174)).heap.size := by simp
 rw [hgb] at z0 z1 z2 z3 zl
 obtain ⟨W0, hW0⟩ : ∃ W0, w.alloc (.cells #[.int .u64 off0, .int .u64 old0, .int .u64 new0, .bool false] 174) = W0 := ⟨_, rfl⟩
 have a0 := (HB0.out.cell (p := ⟨a, 0, none⟩) hl).trans c0
 have a1 := (HB0.out.cell (p := ⟨a, 1, none⟩) hl).trans c1
 have a7 := (HB0.out.cell (p := ⟨a, 7, none⟩) hl).trans c7
 have a8 := (HB0.out.cell (p := ⟨a, 8, none⟩) hl).trans c8
 have b1 := (HB0.out.cell (p := ⟨q, 1, none⟩) ql).trans q1
 have hl0 := Nat.lt_of_lt_of_le hl HB0.out.size
 have ql0 := Nat.lt_of_lt_of_le ql HB0.out.size
 rw [hW0] at HB0 z0 z1 z2 z3 zl a0 a1 a7 a8 b1 hl0 ql0
 rw [hW0, hgb]
 have hB0 := HB0.out
 clear hW0 hgb c0 c1 c7 c8 q1
 go_region_held3 (fun w' => w'.cell? ⟨a, 0, none⟩ = some (.pointer (some ⟨q, 0, none⟩)) ∧ w'.cell? ⟨a, 1, none⟩ = some (.int .i64 th) ∧ w'.cell? ⟨a, 7, none⟩ = some (.int .u64 f) ∧ w'.cell? ⟨a, 8, none⟩ = some (.int .u64 c) ∧ w'.cell? ⟨q, 1, none⟩ = some (.pointer (some ⟨p, 0, none⟩)) ∧ w'.cell? ⟨gb, 0, none⟩ = some (.int .u64 off0) ∧ w'.cell? ⟨gb, 1, none⟩ = some (.int .u64 old0) ∧ w'.cell? ⟨gb, 2, none⟩ = some (.int .u64 new0) ∧ w'.cell? ⟨gb, 3, none⟩ = some (.bool false) ∧ a < w'.heap.size ∧ q < w'.heap.size ∧ gb < w'.heap.size)
  ((refine ⟨?_, ?_, ?_, ?_, ?_, ?_, ?_, ?_, ?_, ?_, ?_, ?_⟩ <;> first | assumption | (go_simp; done) | (simp; omega)))
  (first
    | (go_at_call 60; (first | (with_reducible refine (HW2.out _ (by (repeat (first | with_reducible (first | exact Below.refl _ _ | refine bl_alloc ?_ _ | refine bl_drew ?_ | refine bl_drewN ?_ _ | refine bl_bx ?_ _ | exact BX.below _ | refine bl_set ?_ (by first | (exact Nat.le_refl _) | (simp; done) | (simp; omega)) _) | assumption)))).mono ?_) | (with_reducible refine (HW3.out _ (by (repeat (first | with_reducible (first | exact Below.refl _ _ | refine bl_alloc ?_ _ | refine bl_drew ?_ | refine bl_drewN ?_ _ | refine bl_bx ?_ _ | exact BX.below _ | refine bl_set ?_ (by first | (exact Nat.le_refl _) | (simp; done) | (simp; omega)) _) | assumption)))).mono ?_)); rintro e w3 ⟨rfl, rfl⟩)
    | (go_at_call 115; (with_reducible refine (HPB.out _ (by (repeat (first | with_reducible (first | exact Below.refl _ _ | refine bl_alloc ?_ _ | refine bl_drew ?_ | refine bl_drewN ?_ _ | refine bl_bx ?_ _ | exact BX.below _ | refine bl_set ?_ (by first | (exact Nat.le_refl _) | (simp; done) | (simp; omega)) _) | assumption))) _ (by first | with_reducible exact CB.new _ _ _ | with_reducible exact (CB.new _ _ _).drew)).mono ?_); rintro e w3 ⟨x, order, rfl, hx, hpm, hP, hC⟩; have HX := Lib.hid hx; have HPM := Lib.hid hpm; have HP := Lib.hid hP; have HCH := Lib.hid hC; have s0 : w3.cell? ⟨a, 0, none⟩ = some (.pointer (some ⟨q, 0, none⟩)) := (hC.cells a 0 (by first | (simp; done) | (simp; omega) | omega) (fun hh => hh (.inl HKA.out))).trans (by go_simp); have s1 : w3.cell? ⟨a, 1, none⟩ = some (.int .i64 th) := (hC.cells a 1 (by first | (simp; done) | (simp; omega) | omega) (fun hh => hh (.inl HKA.out))).trans (by go_simp); have s2 : w3.cell? ⟨a, 7, none⟩ = some (.int .u64 f) := (hC.cells a 7 (by first | (simp; done) | (simp; omega) | omega) (fun hh => hh (.inl HKA.out))).trans (by go_simp); have s3 : w3.cell? ⟨a, 8, none⟩ = some (.int .u64 c) := (hC.cells a 8 (by first | (simp; done) | (simp; omega) | omega) (fun hh => hh (.inl HKA.out))).trans (by go_simp); have s4 : w3.cell? ⟨q, 1, none⟩ = some (.pointer (some ⟨p, 0, none⟩)) := (hC.cells q 1 (by first | (simp; done) | (simp; omega) | omega) (fun hh => hh (.inl HKQ.out))).trans (by go_simp); have s5 : w3.cell? ⟨gb, 0, none⟩ = some (.int .u64 off0) := (hC.cells gb 0 (by first | (simp; done) | (simp; omega) | omega) (fun hh => hh (.inr ⟨Nat.le_of_eq HGB.out, (by first | (simp; done) | (simp; omega) | omega)⟩))).trans (by go_simp); have s6 : w3.cell? ⟨gb, 1, none⟩ = some (.int .u64 old0) := (hC.cells gb 1 (by first | (simp; done) | (simp; omega) | omega) (fun hh => hh (.inr ⟨Nat.le_of_eq HGB.out, (by first | (simp; done) | (simp; omega) | omega)⟩))).trans (by go_simp); have s7 : w3.cell? ⟨gb, 2, none⟩ = some (.int .u64 new0) := (hC.cells gb 2 (by first | (simp; done) | (simp; omega) | omega) (fun hh => hh (.inr ⟨Nat.le_of_eq HGB.out, (by first | (simp; done) | (simp; omega) | omega)⟩))).trans (by go_simp); have s8 : w3.cell? ⟨gb, 3, none⟩ = some (.bool false) := (hC.cells gb 3 (by first | (simp; done) | (simp; omega) | omega) (fun hh => hh (.inr ⟨Nat.le_of_eq HGB.out, (by first | (simp; done) | (simp; omega) | omega)⟩))).trans (by go_simp); have l0 : a < w3.heap.size := Nat.lt_of_lt_of_le (by first | (simp; done) | (simp; omega) | omega) hC.size; have l1 : q < w3.heap.size := Nat.lt_of_lt_of_le (by first | (simp; done) | (simp; omega) | omega) hC.size; have l2 : gb < w3.heap.size := Nat.lt_of_lt_of_le (by first | (simp; done) | (simp; omega) | omega) hC.size; clear hx hpm hP hC))
 obtain ⟨W1, hW1⟩ : ∃ W1, W1 = ((W0.alloc (.cells #[.int .u64 off0, .int .u64 old0, .int .u64 new0, .bool false, .int .u64 2064, .int .u64 f, .int .u64 f', .bool false, .int .u64 2072, .int .u64 c, .int .u64 c', .bool false] 174)).drew) := ⟨_, rfl⟩
 have HB1 : Hid (Below w.heap.size w W1) := by rw [hW1]; show Below _ _ _; (repeat (first | with_reducible (first | exact Below.refl _ _ | refine bl_alloc ?_ _ | refine bl_drew ?_ | refine bl_drewN ?_ _ | refine bl_bx ?_ _ | exact BX.below _ | refine bl_set ?_ (by first | (exact Nat.le_refl _) | (simp; done) | (simp; omega)) _) | assumption))
 rw [← hW1] at HX HP HCH
 clear hW1
 have HHX : Hid (w.heap.size ≤ x) := Nat.le_trans HB1.out.size HX.out
 have hC1 : CB W1 a 106 (qocells q th ins val s rd none f c 0 false) := HC.out.below HB1.out
 have hC3 : CB w3 a 106 (qocells q th ins val s rd none f c 0 false) := hC1.keep (HCH.out.block a hC1.lt (fun hh => hh (.inl HKA.out)))
 have HC3 := Lib.hid hC3
 have f6 := hC3.frozen 6
 have k6 : w3.cell? ⟨a, 6, none⟩ = some (.pointer none) := hC3.cell 6
 have hCC : Ch (fun b => ¬ K b ∨ b = a) w w3 := (Ch.of_below HB1.out).trans HCH.out (fun b hb _ => .inl (fun hk => hb (.inl hk)))
 have HCC := Lib.hid hCC
 clear hC1 hC3 hCC s0 s1 s2 s3 s4 s5 s6 s7 s8
 go_wp2
 go_end0
 refine ⟨x, order, rfl, HHX.out, HPM.out, HC3.out.set 6 _, ?_, HCC.out.trans ((Ch.refl (At a) _).set1 _ _) (fun b hb _ => .inr hb)⟩
 exact (HP.out.less (fun b hb => .inl hb)).chK ((Ch.refl (At a) _).set1 _ _) (fun b _ hb => by rw [show b = a from hb]; exact HKA.out)
end
theorem firstFree_min : ∀ (bs : List Bool) (q : Nat), q < firstFree bs → bs.getD q true = true
 | [], q, h => by simp [firstFree] at h
 | b :: bs, q, h => by
   unfold firstFree at h
   cases b with
   | false => simp at h
   | true =>
     simp only [if_true] at h
     cases q with
     | zero => rfl
     | succ q => have := firstFree_min bs q (by omega); simpa using this
theorem firstFree_at : ∀ (bs : List Bool), firstFree bs < bs.length → bs.getD (firstFree bs) true = false
 | [], h => by simp at h
 | b :: bs, h => by
   unfold firstFree at h ⊢
   cases b with
   | false => rfl
   | true =>
     simp only [if_true] at h ⊢
     have := firstFree_at bs (by simpa using h)
     simpa using this
theorem idx_first {bs : List Bool} (h : firstFree bs < bs.length) : idxB bs = some (firstFree bs) := by
 unfold idxB
 exact range_find h (by rw [firstFree_at bs h]; rfl) (fun q hq => by rw [firstFree_min bs q hq]; rfl)
theorem entsB3 {n : Nat} {e0 e1 e2 : Ent} (h0 : outB 0 32 n e0.off = true) (h1 : outB 0 32 n e1.off = true) (h2 : outB 0 32 n e2.off = true) (p0 : e0.poss = true) (p1 : e1.poss = true) (p2 : e2.poss = true) (n01 : e0.off ≠ e1.off) (n02 : e0.off ≠ e2.off) (n12 : e1.off ≠ e2.off) : entsB 0 32 n [e0, e1, e2] 3 = true := by
 unfold entsB idxOff
 simp [List.range_succ, h0, h1, h2, p0, p1, p2, n01, n02, n12]
theorem out_q {n k : Nat} (h1 : 256 ≤ k) (h2 : k < 8 * n) : outB 0 32 n (8 * (k : Int)) = true := by
 unfold outB
 simp only [Bool.and_eq_true, Bool.or_eq_true, decide_eq_true_eq]
 omega
theorem entsB_q {n P f c : Nat} {ins : Bool} {v : Int} (hv : 0 ≤ v ∧ v < 1099511627776) (hf : f < P) (hc : c ≤ P) (hci : ins = false → 0 < c) (hcp : ins = true → c < P) (hP : P < 1000000) (hn : 264 + P ≤ 8 * n) : entsB 0 32 n (qEnts 256 P ins f c v) 3 = true := by
 have hm : ∀ x, x % P < P := fun x => Nat.mod_lt _ (by omega)
 have hm1 := hm (f + c)
 have hm2 := hm f
 have hm3 := hm (f + 1)
 unfold qEnts qpW qfW qcW
 generalize (f + c) % P = y1 at *
 generalize f % P = y2 at *
 generalize (f + 1) % P = y3 at *
 cases ins with
 | true =>
   have := hcp rfl
   simp only [if_true]
   refine entsB3 (out_q (by omega) (by omega)) (out_q (by omega) (by omega)) (out_q (by omega) (by omega)) ?_ ?_ ?_ (by dsimp only; omega) (by dsimp only; omega) (by dsimp only; omega) <;> (unfold Ent.poss; simp; omega)
 | false =>
   have := hci rfl
   simp only [Bool.false_eq_true, if_false]
   refine entsB3 (out_q (by omega) (by omega)) (out_q (by omega) (by omega)) (out_q (by omega) (by omega)) ?_ ?_ ?_ (by dsimp only; omega) (by dsimp only; omega) (by dsimp only; omega) <;> (unfold Ent.poss; simp; omega)
/-- A call in memory, at block a; its blocks have role r. -/
def OcM (κ : Nat → Nat) (r p q : Nat) (t : Nat → Nat) (w : World) (a : Nat) (m : QM) : Prop :=
 κ a = r ∧ match m.ph with
 | .start => CB w a 106 (qocells q m.th m.ins (if m.ins then m.val else 0) 0 none none 0 0 0 false)
 | .rd s f c rs => ∃ (g : Nat) (v f' c' : Int), CB w a 106 (qocells q m.th m.ins v s (some g) none f' c' 0 false) ∧ (s ≠ 1 → f' = (f : Int)) ∧ (s = 3 → c' = (c : Int)) ∧ (m.ins = true → v = m.val) ∧
    CB w g 168 (rdcells (.pointer (some ⟨p, 0, none⟩)) (.pointer (some ⟨t m.th, 0, none⟩)) rs) ∧ κ g = r ∧ g ≠ a
 | .chg f c v x => ∃ (s : Nat) (rd : Option Nat), CB w a 106 (qocells q m.th m.ins v s rd (some x) f c 0 false)
 | .fin v e => ∃ (v' : Int) (s : Nat) (f' c' : Int), CB w a 106 (qocells q m.th m.ins v' s none none f' c' e true) ∧ (e = 0 → v' = v) ∧ (e ≠ 0 → v = 0)
section
variable {κ κ' : Nat → Nat} {r p d q a n lines : Nat} {t : Nat → Nat} {w w' : World} {m m' : QM} {bs : Nat → Option Nat} {σ σ' : PwS}
theorem OcM.ch {S : Nat → Prop} (h : OcM κ r p q t w a m) (hC : Ch S w w') (hS : ∀ b, b < w.heap.size → S b → κ b ≠ r) (hk : ∀ b, b < w.heap.size → κ' b = κ b) : OcM κ' r p q t w' a m := by
 obtain ⟨h1, h2⟩ := h
 have keep : ∀ {b : Nat} {ty : TypeId} {vs : Array Value}, CB w b ty vs → κ b = r → CB w' b ty vs := fun {b ty vs} hb hr => hb.keep (hC.block b hb.lt (fun hs => hS b hb.lt hs hr))
 cases hp : m.ph with
 | start =>
   rw [hp] at h2
   exact ⟨by rw [hk a h2.lt]; exact h1, by rw [hp]; exact keep h2 h1⟩
 | rd s f c rs =>
   rw [hp] at h2
   obtain ⟨g, v, f', c', g1, g2, g3, g4, g5, g6, g7⟩ := h2
   exact ⟨by rw [hk a g1.lt]; exact h1, by rw [hp]; exact ⟨g, v, f', c', keep g1 h1, g2, g3, g4, keep g5 g6, by rw [hk g g5.lt]; exact g6, g7⟩⟩
 | chg f c v x =>
   rw [hp] at h2
   obtain ⟨s, rd, g1⟩ := h2
   exact ⟨by rw [hk a g1.lt]; exact h1, by rw [hp]; exact ⟨s, rd, keep g1 h1⟩⟩
 | fin v e =>
   rw [hp] at h2
   obtain ⟨v', s, f', c', g1, g2⟩ := h2
   exact ⟨by rw [hk a g1.lt]; exact h1, by rw [hp]; exact ⟨v', s, f', c', keep g1 h1, g2⟩⟩
theorem OcM.same (h : OcM κ r p q t w a m) (h1 : m'.ins = m.ins) (h2 : m'.val = m.val) (h3 : m'.th = m.th) (h4 : m'.ph = m.ph) : OcM κ r p q t w a m' := by
 unfold OcM at h ⊢
 rw [h1, h2, h3, h4]
 exact h
/-- The calls in progress behind a step. -/
def bsA (m' : QM) (bs : Nat → Option Nat) : Nat → Option Nat := if m'.ph.over then fun i => if i = m'.th then none else bs i else bs
/-- What a step of a call leaves. -/
def QoPost (κ : Nat → Nat) (r p d q a n lines : Nat) (t : Nat → Nat) (w : World) (bs : Nat → Option Nat) (v : Value) (σ' : PwS) (m' : QM) (e : Ending) (w' : World) : Prop :=
 e = .returned v ∧ ∃ κ' : Nat → Nat, (∀ b, b < w.heap.size → κ' b = κ b) ∧ PMx (fun b => κ' b ≠ 0) p d t 0 32 ((n : Int) * 64) w' σ' ∧ OcM κ' r p q t w' a m' ∧ CB w' q 93 (qcells d p 2048 lines (bsA m' bs)) ∧ Ch (fun b => κ b = 0 ∨ κ b = r ∨ κ b = 2) w w'
/-- New blocks have role r. -/
def rolN (κ : Nat → Nat) (w w' : World) (r : Nat) : Nat → Nat := fun b => if w.heap.size ≤ b ∧ b < w'.heap.size then r else κ b
theorem rolN_old {b : Nat} (h : b < w.heap.size) : rolN κ w w' r b = κ b := if_neg (by omega)
theorem rolN_new {b : Nat} (h1 : w.heap.size ≤ b) (h2 : b < w'.heap.size) : rolN κ w w' r b = r := if_pos ⟨h1, h2⟩
theorem PMx.rolN {size : Int} (h : PMx (fun b => κ b ≠ 0 ∨ (w.heap.size ≤ b ∧ b < w'.heap.size)) p d t 0 32 size w' σ) : PMx (fun b => rolN κ w w' r b ≠ 0) p d t 0 32 size w' σ :=
 h.less (fun b hb => by
  by_cases hx : w.heap.size ≤ b ∧ b < w'.heap.size
  · exact .inr hx
  · left; have e : Go.Proofs.YtaefkelaffijbaaGreatDoor.rolN κ w w' r b = κ b := if_neg hx
    rw [e] at hb; exact hb)
/-- A step that goes on from a later world. -/
theorem QoPost.trans {κ1 : Nat → Nat} {w1 : World} {v : Value} {e : Ending} (h : QoPost κ1 r p d q a n lines t w1 bs v σ' m' e w') (hk : ∀ b, b < w.heap.size → κ1 b = κ b) (hC : Ch (fun b => κ b = 0 ∨ κ b = r ∨ κ b = 2) w w1) : QoPost κ r p d q a n lines t w bs v σ' m' e w' := by
 obtain ⟨h1, κ', h2, h3, h4, h5, h6⟩ := h
 exact ⟨h1, κ', fun b hb => (h2 b (Nat.lt_of_lt_of_le hb hC.size)).trans (hk b hb), h3, h4, h5, hC.trans h6 (fun b hx hb => by rw [hk b hb] at hx; exact hx)⟩
end
theorem PMx.opNo {K : Nat → Prop} {p d line lines : Nat} {t : Nat → Nat} {size : Int} {w : World} {σ : PwS} (h : PMx K p d t line lines size w σ) {a : Nat} (ha : w.heap.size ≤ a) : σ.ops a = none := by
 obtain ⟨role, bb, h, hK⟩ := h
 cases ho : σ.ops a with
 | none => rfl
 | some o => have := (h.op a o ho).lt; omega
/-- What a call needs behind its read: the read has ended. -/
structure LdIn (κ : Nat → Nat) (r p d q a g n P lines : Nat) (t : Nat → Nat) (w : World) (σ : PwS) (m : QM) (bs : Nat → Option Nat) (s : Nat) (v f' c' : Int) (x : Nat) : Prop where
 pm : PMx (fun b => κ b ≠ 0) p d t 0 32 ((n : Int) * 64) w σ
 hn : n < 1000
 hn2 : 264 + P ≤ 8 * n
 hP : 8 * (lines - 1) = P ∧ 2 ≤ lines
 hq : CB w q 93 (qcells d p 2048 lines bs)
 kq : κ q = 2
 ka : κ a = r
 r3 : 3 ≤ r
 th : m.th < 8
 bs : bs m.th = some a
 hc : CB w a 106 (qocells q m.th m.ins v s (some g) none f' c' 0 false)
 vl : Calls Tryz.prog 96 #[.pointer (some ⟨g, 0, none⟩)] w fun e w' => e = .returned (.tuple #[.int .u64 (x : Int), .int .i64 0]) ∧ Below w.heap.size w w'
 xr : x < 1099511627776
 er : ∀ i, (σ.dev.thr i).err = 0
 bz : σ.busy.length = 8 ∧ firstFree σ.busy < 8
section
variable {κ : Nat → Nat} {r p d q a g n P lines : Nat} {t : Nat → Nat} {w w' : World} {σ : PwS} {m : QM} {bs : Nat → Option Nat} {rs : RdS} {s x : Nat} {v f' c' : Int}
theorem LdIn.qa (h : LdIn κ r p d q a g n P lines t w σ m bs s v f' c' x) : q ≠ a := fun he => by have h1 := h.kq; have h2 := h.ka; have h3 := h.r3; rw [he] at h1; omega
/-- The call's cells change behind new memory. -/
theorem LdIn.w2 (h : LdIn κ r p d q a g n P lines t w σ m bs s v f' c' x) {w2 : World} (hB : Below w.heap.size w w') (hC : Ch (At a) w' w2) : PMx (fun b => κ b ≠ 0) p d t 0 32 ((n : Int) * 64) w2 σ ∧ CB w2 q 93 (qcells d p 2048 lines bs) ∧ Ch (fun b => κ b = 0 ∨ κ b = r ∨ κ b = 2) w w2 := by
 have hka := h.ka
 have hr3 := h.r3
 refine ⟨(h.pm.bl0 hB).chK hC (fun b _ hb => by rw [show b = a from hb, hka]; omega), (h.hq.below hB).keep (hC.block q (h.hq.below hB).lt (fun hx => h.qa hx)), (Ch.of_below hB).trans hC (fun b hb _ => .inr (.inl (by rw [show b = a from hb]; exact hka)))⟩
set_option maxRecDepth 100000 in
set_option maxHeartbeats 2000000 in
theorem qoLoaded1 (h : LdIn κ r p d q a g n P lines t w σ m bs 1 v f' c' x) (hv : m.ins = true → v = m.val) :
 Calls Tryz.prog 68 #[.pointer (some ⟨a, 0, none⟩)] w (QoPost κ r p d q a n lines t w bs (.tuple #[]) σ { m with ph := .rd 2 x 0 (rd0 m.th (qcW 256)) }) := by
 have HH := Lib.hid h
 have HVL := Lib.hid h.vl
 have HQC := Lib.hid h.hq.qc
 obtain ⟨c0, c1, c2, c3, c4, c5, c6, c7, c8, c9, c10, hl, hf⟩ := h.hc.oc
 have hf7 := hf 7
 obtain ⟨q0, q1, q2, q3, ql⟩ := h.hq.qc
 clear h hf q0 q1 q2 q3
 go_enter Tryz.func68, Tryz.ntmps68
 go_upto_region 6 with (go_at_call 96; refine HVL.out.mono ?_; rintro e w1 ⟨rfl, hb⟩; obtain ⟨y, rfl⟩ := bx_of hb; clear hb)
 obtain ⟨W2, hW2⟩ : ∃ W2, y.w.setCell ⟨a, 7, none⟩ (.int .u64 (x : Int)) = W2 := ⟨_, rfl⟩
 obtain ⟨hP2, hQ2, hC2⟩ := HH.out.w2 (w2 := y.w.setCell ⟨a, 7, none⟩ (.int .u64 (x : Int))) y.below ((Ch.refl _ _).set1 _ _)
 have hO2 : CB (y.w.setCell ⟨a, 7, none⟩ (.int .u64 (x : Int))) a 106 (qocells q m.th m.ins v 1 (some g) none x c' 0 false) := (HH.out.hc.bx y).set 7 _
 rw [hW2] at hP2 hQ2 hC2 hO2 ⊢
 have k0 := hO2.cell 0
 simp only [qocells, List.getElem?_toArray, List.getElem?_cons_succ, List.getElem?_cons_zero] at k0
 have hl2 := hO2.lt
 have hka := HH.out.ka
 have hr3 := HH.out.r3
 have hth := HH.out.th
 have hn2 := HH.out.hn2
 have hld := qoLoad (rd0' := some g) hP2 HH.out.hn (show κ a ≠ 0 by omega) hQ2 hO2 hth 2 259 ⟨by omega, by omega⟩
 rw [show (8 * ((259 : Nat) : Int)) = 2072 from rfl, show ((2 : Nat) : Int) = 2 from rfl] at hld
 have HLD := Lib.hid hld
 have HW3 : Hid (Calls Tryz.prog 60 #[.pointer (some ⟨q, 0, none⟩), .int .i64 3] W2 fun e w' => e = .returned (.int .u64 2072) ∧ W2 = w') := by
  have := quWord hQ2.qc 3 (by omega) (by omega); show Calls _ _ _ _ _; simpa using this
 have HC2 := Lib.hid hC2
 have HFIN : Hid (∀ w3 g3, W2.heap.size ≤ g3 → CB w3 a 106 (qocells q m.th m.ins v 2 (some g3) none x c' 0 false) → CB w3 g3 168 (rdcells (.pointer (some ⟨p, 0, none⟩)) (.pointer (some ⟨t m.th, 0, none⟩)) ⟨m.th, 2072, 0, 0, false, 0⟩) → PMx (fun b => κ b ≠ 0 ∨ (W2.heap.size ≤ b ∧ b < w3.heap.size)) p d t 0 32 ((n : Int) * 64) w3 σ → Ch (At a) W2 w3 →
  QoPost κ r p d q a n lines t w bs (.tuple #[]) σ { m with ph := .rd 2 x 0 (rd0 m.th (qcW 256)) } (.returned (.tuple #[])) w3) := fun w3 g3 h1 h2 h3 h4 h5 => by
  have hga : a < W2.heap.size := hl2
  refine ⟨rfl, rolN κ W2 w3 r, fun b hb => rolN_old (Nat.lt_of_lt_of_le hb HC2.out.size), h4.rolN, ⟨by rw [rolN_old hga]; exact hka, g3, v, x, c', h2, fun _ => rfl, fun hx => by omega, hv, h3, rolN_new h1 h3.lt, by omega⟩, ?_, HC2.out.trans h5 (fun b hb _ => .inr (.inl (by rw [show b = a from hb]; exact hka)))⟩
  exact hQ2.keep (h5.block q hQ2.lt (fun hx => HH.out.qa hx))
 clear hW2 hP2 hQ2 hC2 hO2 hld
 go_wp2_with (first
  | (go_at_call 60; (with_reducible refine HW3.out.mono ?_); rintro e w3 ⟨rfl, rfl⟩)
  | (go_at_call 66; (with_reducible refine HLD.out.mono ?_); rintro e w3 ⟨g3, rfl, t1, t2, t3, t4, t5⟩; have T1 := Lib.hid t1; have T2 := Lib.hid t2; have T3 := Lib.hid t3; have T4 := Lib.hid t4; have T5 := Lib.hid t5; clear t1 t2 t3 t4 t5))
 exact bodyPost_ret (v := .tuple #[]) (by simp [results, Tryz.results68, go_sem]) rfl (HFIN.out w3 g3 T1.out T2.out T3.out T4.out T5.out)
/-- A call has ended. -/
theorem qoFin {W2 w3 : World} {e vv f1 c1 : Int} {s1 : Nat} (hka : κ a = r) (hkq : κ q = 2) (hr3 : 3 ≤ r) (hP2 : PMx (fun b => κ b ≠ 0) p d t 0 32 ((n : Int) * 64) W2 σ) (hC2 : Ch (fun b => κ b = 0 ∨ κ b = r ∨ κ b = 2) w W2)
 (h1 : CB w3 a 106 (qocells q m.th m.ins v s1 none none f1 c1 e true)) (h2 : CB w3 q 93 (qcells d p 2048 lines (fun i => if i = m.th then none else bs i))) (h3 : Ch (fun b => b = a ∨ b = q) W2 w3) (h0 : e = 0 → v = vv) (hn0 : e ≠ 0 → vv = 0) :
 QoPost κ r p d q a n lines t w bs (.tuple #[]) σ { m with ph := .fin vv e } (.returned (.tuple #[])) w3 := by
 have hx : ∀ b, b = a ∨ b = q → κ b ≠ 0 ∧ (κ b = r ∨ κ b = 2) := fun b hb => by
  rcases hb with rfl | rfl
  · exact ⟨by omega, .inl hka⟩
  · exact ⟨by omega, .inr hkq⟩
 exact ⟨rfl, κ, fun _ _ => rfl, hP2.chK h3 (fun b _ hb => (hx b hb).1), ⟨hka, v, s1, f1, c1, h1, h0, hn0⟩, h2, hC2.trans h3 (fun b hb _ => .inr (hx b hb).2)⟩
set_option maxRecDepth 100000 in
set_option maxHeartbeats 4000000 in
/-- The number of values: the queue is full, or empty. -/
theorem qoLoaded2e (h : LdIn κ r p d q a g n P lines t w σ m bs 2 v f' c' x) (e : Int) (he : (m.ins = true ∧ P ≤ x ∧ e = 4) ∨ (m.ins = false ∧ x = 0 ∧ e = 5)) :
 Calls Tryz.prog 68 #[.pointer (some ⟨a, 0, none⟩)] w (QoPost κ r p d q a n lines t w bs (.tuple #[]) σ { m with ph := .fin 0 e }) := by
 have HH := Lib.hid h
 have HVL := Lib.hid h.vl
 have hP := h.hP
 have hn2 := h.hn2
 have hn := h.hn
 have HPL : Hid (∀ W, Below w.heap.size w W → True) := fun _ _ => trivial
 obtain ⟨c0, c1, c2, c3, c4, c5, c6, c7, c8, c9, c10, hl, hf⟩ := h.hc.oc
 have hf8 := hf 8
 obtain ⟨q0, q1, q2, q3, ql⟩ := h.hq.qc
 clear h hf q0 q1 q2 q3
 go_enter Tryz.func68, Tryz.ntmps68
 go_upto_region 10 with (go_at_call 96; refine HVL.out.mono ?_; rintro e w1 ⟨rfl, hb⟩; obtain ⟨y, rfl⟩ := bx_of hb; clear hb)
 obtain ⟨W2, hW2⟩ : ∃ W2, y.w.setCell ⟨a, 8, none⟩ (.int .u64 (x : Int)) = W2 := ⟨_, rfl⟩
 obtain ⟨hP2, hQ2, hC2⟩ := HH.out.w2 (w2 := y.w.setCell ⟨a, 8, none⟩ (.int .u64 (x : Int))) y.below ((Ch.refl _ _).set1 _ _)
 have hO2 : CB (y.w.setCell ⟨a, 8, none⟩ (.int .u64 (x : Int))) a 106 (qocells q m.th m.ins v 2 (some g) none f' x 0 false) := (HH.out.hc.bx y).set 8 _
 rw [hW2] at hP2 hQ2 hC2 hO2 ⊢
 have k0 := hO2.cell 0
 have k2 := hO2.cell 2
 simp only [qocells, List.getElem?_toArray, List.getElem?_cons_succ, List.getElem?_cons_zero] at k0 k2
 have hl2 := hO2.lt
 have HND := Lib.hid (qoEnd hQ2 HH.out.qa hO2 HH.out.th HH.out.bs e)
 have HPLC : Hid (Calls Tryz.prog 44 #[.pointer (some ⟨q, 0, none⟩)] W2 fun e w' => e = .returned (.int .u64 (P : Int)) ∧ W2 = w') := by
  have := quPlaces hQ2.qc (by omega) (by omega)
  rwa [hP.1] at this
 have HP2 := Lib.hid hP2
 have HC2 := Lib.hid hC2
 clear hW2 hP2 hQ2 hC2 hO2 hP hn2 hn HPL
 rcases he with ⟨h1, h2, h3⟩ | ⟨h1, h2, h3⟩
 · subst h3
   rw [h1] at k2
   have hge : (P : Int) ≤ (x : Int) := by omega
   clear h2
   go_wp2_with (first
    | (go_at_call 44; (with_reducible refine HPLC.out.mono ?_); rintro e w3 ⟨rfl, rfl⟩)
    | (go_at_call 89; (with_reducible refine HND.out.mono ?_); rintro e w3 ⟨rfl, t1, t2, t3⟩; have T1 := Lib.hid t1; have T2 := Lib.hid t2; have T3 := Lib.hid t3; clear t1 t2 t3))
   exact bodyPost_ret (v := .tuple #[]) (by simp [results, Tryz.results68, go_sem]) rfl (qoFin HH.out.ka HH.out.kq HH.out.r3 HP2.out HC2.out T1.out T2.out T3.out (fun h => by omega) (fun _ => rfl))
 · subst h3
   subst h2
   rw [h1] at k2
   go_wp2_with (first
    | (go_at_call 44; (with_reducible refine HPLC.out.mono ?_); rintro e w3 ⟨rfl, rfl⟩)
    | (go_at_call 89; (with_reducible refine HND.out.mono ?_); rintro e w3 ⟨rfl, t1, t2, t3⟩; have T1 := Lib.hid t1; have T2 := Lib.hid t2; have T3 := Lib.hid t3; clear t1 t2 t3))
   exact bodyPost_ret (v := .tuple #[]) (by simp [results, Tryz.results68, go_sem]) rfl (qoFin HH.out.ka HH.out.kq HH.out.r3 HP2.out HC2.out T1.out T2.out T3.out (fun h => by omega) (fun _ => rfl))
end
/-- What a step leaves, whatever block a new operation of mwcas gets. -/
def QoPostB (κ : Nat → Nat) (r p d q a n lines : Nat) (t : Nat → Nat) (w : World) (bs : Nat → Option Nat) (v : Value) (σ : PwS) (F : Nat × List Nat → PwS × QPh) (m : QM) (e : Ending) (w' : World) : Prop :=
 ∃ bl : Nat × List Nat, σ.ops bl.1 = none ∧ bl.2.Perm (List.range 3) ∧ QoPost κ r p d q a n lines t w bs v (F bl).1 { m with ph := (F bl).2 } e w'
section
variable {κ : Nat → Nat} {r p d q a g n P lines : Nat} {t : Nat → Nat} {w w' : World} {σ : PwS} {m : QM} {bs : Nat → Option Nat} {rs : RdS} {s x : Nat} {v f' c' : Int}
theorem qoCom {W2 w3 : World} {s1 f c x' : Nat} {vv : Int} {rd : Option Nat} {order : List Nat} {es : List Ent} (hka : κ a = r) (hkq : κ q = 2) (hr3 : 3 ≤ r) (hC2 : Ch (fun b => κ b = 0 ∨ κ b = r ∨ κ b = 2) w W2) (hqa : q ≠ a)
 (hq2 : CB W2 q 93 (qcells d p 2048 lines bs)) (hN : PMx (fun b => κ b ≠ 0) p d t 0 32 ((n : Int) * 64) W2 σ) (hx : W2.heap.size ≤ x') (hpm : order.Perm (List.range 3)) (hes : es = qEnts 256 P m.ins f c vv)
 (h1 : CB w3 a 106 (qocells q m.th m.ins vv s1 rd (some x') f c 0 false)) (hP : PMx (fun b => κ b ≠ 0) p d t 0 32 ((n : Int) * 64) w3 { σ.setOp x' (newOp (firstFree σ.busy) m.th es order) with busy := σ.busy.set (firstFree σ.busy) true }) (hC : Ch (fun b => ¬ κ b ≠ 0 ∨ b = a) W2 w3) :
 QoPostB κ r p d q a n lines t w bs (.tuple #[]) σ (qBeg 256 P σ m.th m.ins f c vv) m (.returned (.tuple #[])) w3 := by
 refine ⟨(x', order), hN.opNo hx, hpm, rfl, κ, fun _ _ => rfl, ?_, ⟨hka, s1, rd, h1⟩, hq2.keep (hC.block q hq2.lt (fun hh => ?_)), hC2.trans hC (fun b hb _ => ?_)⟩
 · rw [hes] at hP; exact hP
 · rcases hh with hh | hh
   · omega
   · exact hqa hh
 · rcases hb with hb | hb
   · exact .inl (by omega)
   · exact .inr (.inl (by rw [hb]; exact hka))
set_option maxRecDepth 100000 in
set_option maxHeartbeats 8000000 in
/-- The number of values, of an insertion. -/
theorem qoLoaded2b {f : Nat} (h : LdIn κ r p d q a g n P lines t w σ m bs 2 v (f : Int) c' x) (hins : m.ins = true) (hx : x < P) (hf : f < P) (hv : 0 ≤ v ∧ v < 1099511627776) :
 Calls Tryz.prog 68 #[.pointer (some ⟨a, 0, none⟩)] w (QoPostB κ r p d q a n lines t w bs (.tuple #[]) σ (qBeg 256 P σ m.th m.ins f x v) m) := by
 have HH := Lib.hid h
 have HVL := Lib.hid h.vl
 have hP := h.hP
 have hn2 := h.hn2
 have hn := h.hn
 obtain ⟨c0, c1, c2, c3, c4, c5, c6, c7, c8, c9, c10, hl, hff⟩ := h.hc.oc
 have hf8 := hff 8
 obtain ⟨q0, q1, q2, q3, ql⟩ := h.hq.qc
 clear h hff q0 q1 q2 q3
 go_enter Tryz.func68, Tryz.ntmps68
 go_upto_region 10 with (go_at_call 96; refine HVL.out.mono ?_; rintro e w1 ⟨rfl, hb⟩; obtain ⟨y, rfl⟩ := bx_of hb; clear hb)
 obtain ⟨W2, hW2⟩ : ∃ W2, y.w.setCell ⟨a, 8, none⟩ (.int .u64 (x : Int)) = W2 := ⟨_, rfl⟩
 obtain ⟨hP2, hQ2, hC2⟩ := HH.out.w2 (w2 := y.w.setCell ⟨a, 8, none⟩ (.int .u64 (x : Int))) y.below ((Ch.refl _ _).set1 _ _)
 have hO2 : CB (y.w.setCell ⟨a, 8, none⟩ (.int .u64 (x : Int))) a 106 (qocells q m.th m.ins v 2 (some g) none f x 0 false) := (HH.out.hc.bx y).set 8 _
 rw [hW2] at hP2 hQ2 hC2 hO2 ⊢
 obtain ⟨k0, _, k2, k3, _, _, _, k7, _, _, _, hl2, _⟩ := hO2.oc
 rw [hins] at k2
 have HPLC : Hid (∀ W, Below W2.heap.size W2 W → Calls Tryz.prog 44 #[.pointer (some ⟨q, 0, none⟩)] W fun e w' => e = .returned (.int .u64 (P : Int)) ∧ W = w') := fun W hW => by
  have := quPlaces (hQ2.qc.bl hW) (by omega) (by omega)
  rwa [hP.1] at this
 obtain ⟨g1, hg1⟩ : ∃ g1, f + x = g1 := ⟨_, rfl⟩
 obtain ⟨y1, hy1⟩ : ∃ y1, g1 % P = y1 := ⟨_, rfl⟩
 have HPX : Hid (∀ W, Below W2.heap.size W2 W → Calls Tryz.prog 42 #[.pointer (some ⟨q, 0, none⟩), .int .u64 (g1 : Int)] W fun e w' => e = .returned (.int .u64 (2112 + 8 * (y1 : Int))) ∧ ∃ n, w' = W.drewN n) := fun W hW => by
  have := quPlace (hQ2.qc.bl hW) hP.1 hP.2 (by omega) g1 (by omega) (by omega)
  rw [hy1] at this; exact this
 have hy1P : y1 < P := by rw [← hy1]; exact Nat.mod_lt _ (by omega)
 have hes : ([⟨2112 + 8 * (y1 : Int), 0, v, false⟩, ⟨2064, f, f, false⟩, ⟨2072, x, (x : Int) + 1, false⟩] : List Ent) = qEnts 256 P m.ins f x v := by
  unfold qEnts qpW qfW qcW
  rw [hins, hg1, hy1]
  simp only [if_true, List.cons.injEq, Ent.mk.injEq, and_true, true_and]
  omega
 have hbz := HH.out.bz
 have HCM := Lib.hid (fun (W : World) (hW : Below W2.heap.size W2 W) => qoCommit (hP2.bl0 hW) hn (show κ a ≠ 0 by have := HH.out.ka; have := HH.out.r3; omega) (show κ q ≠ 0 by have := HH.out.kq; omega) (hQ2.below hW) HH.out.qa (hO2.below hW) HH.out.th (HH.out.er _) (2112 + 8 * (y1 : Int)) 0 v f ((x : Int) + 1) (by omega) (by omega) (by omega)
  (by rw [hes]; exact entsB_q hv hf (by omega) (fun h => by rw [hins] at h; cases h) (fun _ => hx) (by omega) hn2) (idx_first (by omega)) (by omega))
 have HP2 := Lib.hid hP2
 have HC2 := Lib.hid hC2
 have HQ2 := Lib.hid hQ2
 have HES := Lib.hid hes
 have e1 : IntKind.u64.wrap ((x : Int) + 1) = (x : Int) + 1 := IntWalk.u64_in _ (by omega)
 have e2 : IntKind.u64.wrap ((f : Int) + (x : Int)) = (g1 : Int) := by rw [IntWalk.u64_in _ (by omega)]; omega
 have hlt : ¬ (P : Int) ≤ (x : Int) := by omega
 clear hW2 hP2 hQ2 hC2 hO2 hP hn2 hn hes hbz hy1P hy1 hg1 hx hf hv
 go_upto_region 13 with (go_at_call 44; (with_reducible refine (HPLC.out _ (by (repeat (first | with_reducible (first | exact Below.refl _ _ | refine bl_alloc ?_ _ | refine bl_drew ?_ | refine bl_drewN ?_ _ | refine bl_bx ?_ _ | exact BX.below _ | refine bl_set ?_ (by first | (exact Nat.le_refl _) | (simp; done) | (simp; omega)) _) | assumption)))).mono ?_); rintro e w3 ⟨rfl, rfl⟩)
 go_region_held3 (fun w' => w'.cell? ⟨a, 0, none⟩ = some (.pointer (some ⟨q, 0, none⟩)) ∧ w'.cell? ⟨a, 3, none⟩ = some (.int .u64 v) ∧ w'.cell? ⟨a, 7, none⟩ = some (.int .u64 f) ∧ a < w'.heap.size)
  ((refine ⟨?_, ?_, ?_, ?_⟩ <;> first | assumption | (go_simp; done) | (simp; omega)))
  (first
    | (go_at_call 42; (with_reducible refine (HPX.out _ (by (repeat (first | with_reducible (first | exact Below.refl _ _ | refine bl_alloc ?_ _ | refine bl_drew ?_ | refine bl_drewN ?_ _ | refine bl_bx ?_ _ | exact BX.below _ | refine bl_set ?_ (by first | (exact Nat.le_refl _) | (simp; done) | (simp; omega)) _) | assumption)))).mono ?_); rintro e w3 ⟨rfl, n3, rfl⟩)
    | (go_at_call 97; (with_reducible refine (HCM.out _ (by (repeat (first | with_reducible (first | exact Below.refl _ _ | refine bl_alloc ?_ _ | refine bl_drew ?_ | refine bl_drewN ?_ _ | refine bl_bx ?_ _ | exact BX.below _ | refine bl_set ?_ (by first | (exact Nat.le_refl _) | (simp; done) | (simp; omega)) _) | assumption)))).mono ?_); rintro e w3 ⟨x', order, rfl, hx, hpm, hO, hP, hC⟩; have HX := Lib.hid hx; have HPM := Lib.hid hpm; have HO := Lib.hid hO; have HP := Lib.hid hP; have HCH := Lib.hid hC; have s0 := hO.oc.c0; have s3 := hO.oc.c3; have s7 := hO.oc.c7; have sl := hO.oc.lt; clear hx hpm hO hP hC))
 have HB5 : Hid (Below W2.heap.size W2 (W2.drewN (1 + n3))) := by show Below _ _ _; (repeat (first | with_reducible (first | exact Below.refl _ _ | refine bl_alloc ?_ _ | refine bl_drew ?_ | refine bl_drewN ?_ _ | refine bl_bx ?_ _ | exact BX.below _ | refine bl_set ?_ (by first | (exact Nat.le_refl _) | (simp; done) | (simp; omega)) _) | assumption))
 obtain ⟨W5, hW5⟩ : ∃ W5, W2.drewN (1 + n3) = W5 := ⟨_, rfl⟩
 rw [hW5] at HX HCH HB5
 clear hW5 s0 s3 s7
 go_wp2
 exact bodyPost_ret (v := .tuple #[]) (by simp [results, Tryz.results68, go_sem]) rfl (qoCom HH.out.ka HH.out.kq HH.out.r3 (HC2.out.trans (Ch.of_below (S := fun _ => False) HB5.out) (fun b hb _ => hb.elim)) HH.out.qa (HQ2.out.below HB5.out) (HP2.out.bl0 HB5.out) HX.out HPM.out HES.out HO.out HP.out HCH.out)
end
section
variable {κ : Nat → Nat} {r p d q a g n P lines : Nat} {t : Nat → Nat} {w w' : World} {σ : PwS} {m : QM} {bs : Nat → Option Nat} {rs : RdS} {s x : Nat} {v f' c' : Int}
set_option maxRecDepth 100000 in
set_option maxHeartbeats 8000000 in
/-- The number of values, of a removal. -/
theorem qoLoaded2d {f : Nat} (h : LdIn κ r p d q a g n P lines t w σ m bs 2 v (f : Int) c' x) (hins : m.ins = false) (hx : x ≠ 0) (hf : f < P) :
 Calls Tryz.prog 68 #[.pointer (some ⟨a, 0, none⟩)] w (QoPost κ r p d q a n lines t w bs (.tuple #[]) σ { m with ph := .rd 3 f x (rd0 m.th (qpW 256 P f)) }) := by
 have HH := Lib.hid h
 have HVL := Lib.hid h.vl
 have hP := h.hP
 have hn2 := h.hn2
 have hn := h.hn
 obtain ⟨c0, c1, c2, c3, c4, c5, c6, c7, c8, c9, c10, hl, hff⟩ := h.hc.oc
 have hf8 := hff 8
 obtain ⟨q0, q1, q2, q3, ql⟩ := h.hq.qc
 clear h hff q0 q1 q2 q3
 go_enter Tryz.func68, Tryz.ntmps68
 go_upto_region 10 with (go_at_call 96; refine HVL.out.mono ?_; rintro e w1 ⟨rfl, hb⟩; obtain ⟨y, rfl⟩ := bx_of hb; clear hb)
 obtain ⟨W2, hW2⟩ : ∃ W2, y.w.setCell ⟨a, 8, none⟩ (.int .u64 (x : Int)) = W2 := ⟨_, rfl⟩
 obtain ⟨hP2, hQ2, hC2⟩ := HH.out.w2 (w2 := y.w.setCell ⟨a, 8, none⟩ (.int .u64 (x : Int))) y.below ((Ch.refl _ _).set1 _ _)
 have hO2 : CB (y.w.setCell ⟨a, 8, none⟩ (.int .u64 (x : Int))) a 106 (qocells q m.th m.ins v 2 (some g) none f x 0 false) := (HH.out.hc.bx y).set 8 _
 rw [hW2] at hP2 hQ2 hC2 hO2 ⊢
 obtain ⟨k0, _, k2, k3, _, _, _, k7, _, _, _, hl2, _⟩ := hO2.oc
 rw [hins] at k2
 obtain ⟨y1, hy1⟩ : ∃ y1, f % P = y1 := ⟨_, rfl⟩
 have hy1P : y1 < P := by rw [← hy1]; exact Nat.mod_lt _ (by omega)
 have HPX : Hid (∀ W, Below W2.heap.size W2 W → Calls Tryz.prog 42 #[.pointer (some ⟨q, 0, none⟩), .int .u64 (f : Int)] W fun e w' => e = .returned (.int .u64 (2112 + 8 * (y1 : Int))) ∧ ∃ n, w' = W.drewN n) := fun W hW => by
  have := quPlace (hQ2.qc.bl hW) hP.1 hP.2 (by omega) f (by omega) (by omega)
  rw [hy1] at this; exact this
 have hk := HH.out.ka
 have hr := HH.out.r3
 have hlde := fun (W : World) (hW : Below W2.heap.size W2 W) => qoLoad (rd0' := some g) (hP2.bl0 hW) HH.out.hn (show κ a ≠ 0 by omega) (hQ2.below hW) (hO2.below hW) HH.out.th 3 (264 + y1) ⟨by omega, by omega⟩
 rw [show (8 * ((264 + y1 : Nat) : Int)) = 2112 + 8 * (y1 : Int) by omega, show ((3 : Nat) : Int) = 3 from rfl] at hlde
 have HLD := Lib.hid hlde
 have HP2 := Lib.hid hP2
 have HC2 := Lib.hid hC2
 have HQ2 := Lib.hid hQ2
 have HY : Hid (8 * ((qpW 256 P f : Nat) : Int) = 2112 + 8 * (y1 : Int)) := by show _ = _; unfold qpW; rw [hy1]; omega
 have HL2 := Lib.hid hl2
 have HINS := Lib.hid hins
 have hx0 : ¬ (x : Int) = 0 := by omega
 clear hW2 hP2 hQ2 hC2 hO2 hP hn2 hn hy1P hy1 hx hf hlde hk hr hins
 go_upto_region 9 with (fail)
 go_region_held3 (fun w' => w'.cell? ⟨a, 0, none⟩ = some (.pointer (some ⟨q, 0, none⟩)) ∧ w'.cell? ⟨a, 7, none⟩ = some (.int .u64 f) ∧ a < w'.heap.size)
  ((refine ⟨?_, ?_, ?_⟩ <;> first | assumption | (go_simp; done) | (simp; omega)))
  (first
    | (go_at_call 42; (with_reducible refine (HPX.out _ (by (repeat (first | with_reducible (first | exact Below.refl _ _ | refine bl_alloc ?_ _ | refine bl_drew ?_ | refine bl_drewN ?_ _ | refine bl_bx ?_ _ | exact BX.below _ | refine bl_set ?_ (by first | (exact Nat.le_refl _) | (simp; done) | (simp; omega)) _) | assumption)))).mono ?_); rintro e w3 ⟨rfl, n3, rfl⟩)
    | (go_at_call 66; (with_reducible refine (HLD.out _ (by (repeat (first | with_reducible (first | exact Below.refl _ _ | refine bl_alloc ?_ _ | refine bl_drew ?_ | refine bl_drewN ?_ _ | refine bl_bx ?_ _ | exact BX.below _ | refine bl_set ?_ (by first | (exact Nat.le_refl _) | (simp; done) | (simp; omega)) _) | assumption)))).mono ?_); rintro e w3 ⟨g3, rfl, t1, t2, t3, t4, t5⟩; have T1 := Lib.hid t1; have T2 := Lib.hid t2; have T3 := Lib.hid t3; have T4 := Lib.hid t4; have T5 := Lib.hid t5; have s0 := t2.oc.c0; have s7 := t2.oc.c7; have sl := t2.oc.lt; clear t1 t2 t3 t4 t5))
 have HB5 : Hid (Below W2.heap.size W2 (W2.drewN (1 + n3))) := by show Below _ _ _; (repeat (first | with_reducible (first | exact Below.refl _ _ | refine bl_alloc ?_ _ | refine bl_drew ?_ | refine bl_drewN ?_ _ | refine bl_bx ?_ _ | exact BX.below _ | refine bl_set ?_ (by first | (exact Nat.le_refl _) | (simp; done) | (simp; omega)) _) | assumption))
 obtain ⟨W5, hW5⟩ : ∃ W5, W2.drewN (1 + n3) = W5 := ⟨_, rfl⟩
 rw [hW5] at T1 T4 T5 HB5
 clear hW5 s0 s7
 go_wp2
 refine bodyPost_ret (v := .tuple #[]) (by simp [results, Tryz.results68, go_sem]) rfl ?_
 have hC5 : Ch (fun b => κ b = 0 ∨ κ b = r ∨ κ b = 2) w W5 := HC2.out.trans (Ch.of_below (S := fun _ => False) HB5.out) (fun b hb _ => hb.elim)
 have hga : a < W5.heap.size := Nat.lt_of_lt_of_le HL2.out HB5.out.size
 have hQ5 := HQ2.out.below HB5.out
 refine ⟨rfl, rolN κ W5 w3 r, fun b hb => rolN_old (Nat.lt_of_lt_of_le hb hC5.size), T4.out.rolN, ⟨by rw [rolN_old hga]; exact HH.out.ka, g3, v, f, x, T2.out, fun _ => rfl, fun _ => rfl, fun hi => (by have := HINS.out; rw [this] at hi; cases hi), ?_, rolN_new T1.out T3.out.lt, by have := T1.out; omega⟩, ?_, hC5.trans T5.out (fun b hb _ => .inr (.inl (by rw [show b = a from hb]; exact HH.out.ka)))⟩
 · show CB w3 g3 _ (rdcells _ _ ⟨m.th, 8 * ((qpW 256 P f : Nat) : Int), 0, 0, false, 0⟩)
   rw [HY.out]; exact T3.out
 · exact hQ5.keep (T5.out.block q hQ5.lt (fun hx => HH.out.qa hx))
set_option maxRecDepth 100000 in
set_option maxHeartbeats 8000000 in
/-- The first value. -/
theorem qoLoaded3 {f c : Nat} (h : LdIn κ r p d q a g n P lines t w σ m bs 3 v (f : Int) (c : Int) x) (hins : m.ins = false) (hf : f < P) (hc0 : 0 < c) (hcP : c ≤ P) :
 Calls Tryz.prog 68 #[.pointer (some ⟨a, 0, none⟩)] w (QoPostB κ r p d q a n lines t w bs (.tuple #[]) σ (qBeg 256 P σ m.th m.ins f c (x : Int)) m) := by
 have HH := Lib.hid h
 have HVL := Lib.hid h.vl
 have hP := h.hP
 have hn2 := h.hn2
 have hn := h.hn
 obtain ⟨c0, c1, c2, c3, c4, c5, c6, c7, c8, c9, c10, hl, hff⟩ := h.hc.oc
 have hf3 := hff 3
 obtain ⟨q0, q1, q2, q3, ql⟩ := h.hq.qc
 have hxr := h.xr
 clear h hff q0 q1 q2 q3
 go_enter Tryz.func68, Tryz.ntmps68
 go_upto_region 18 with (go_at_call 96; refine HVL.out.mono ?_; rintro e w1 ⟨rfl, hb⟩; obtain ⟨y, rfl⟩ := bx_of hb; clear hb)
 obtain ⟨W2, hW2⟩ : ∃ W2, y.w.setCell ⟨a, 3, none⟩ (.int .u64 (x : Int)) = W2 := ⟨_, rfl⟩
 obtain ⟨hP2, hQ2, hC2⟩ := HH.out.w2 (w2 := y.w.setCell ⟨a, 3, none⟩ (.int .u64 (x : Int))) y.below ((Ch.refl _ _).set1 _ _)
 have hO2 : CB (y.w.setCell ⟨a, 3, none⟩ (.int .u64 (x : Int))) a 106 (qocells q m.th m.ins x 3 (some g) none f c 0 false) := (HH.out.hc.bx y).set 3 _
 rw [hW2] at hP2 hQ2 hC2 hO2 ⊢
 obtain ⟨k0, _, k2, k3, _, _, _, k7, k8, _, _, hl2, _⟩ := hO2.oc
 have HPLC : Hid (∀ W, Below W2.heap.size W2 W → Calls Tryz.prog 44 #[.pointer (some ⟨q, 0, none⟩)] W fun e w' => e = .returned (.int .u64 (P : Int)) ∧ W = w') := fun W hW => by
  have := quPlaces (hQ2.qc.bl hW) (by omega) (by omega)
  rwa [hP.1] at this
 obtain ⟨y1, hy1⟩ : ∃ y1, f % P = y1 := ⟨_, rfl⟩
 obtain ⟨y2, hy2⟩ : ∃ y2, (f + 1) % P = y2 := ⟨_, rfl⟩
 have HPX : Hid (∀ W, Below W2.heap.size W2 W → Calls Tryz.prog 42 #[.pointer (some ⟨q, 0, none⟩), .int .u64 (f : Int)] W fun e w' => e = .returned (.int .u64 (2112 + 8 * (y1 : Int))) ∧ ∃ n, w' = W.drewN n) := fun W hW => by
  have := quPlace (hQ2.qc.bl hW) hP.1 hP.2 (by omega) f (by omega) (by omega)
  rw [hy1] at this; exact this
 have hes : ([⟨2112 + 8 * (y1 : Int), x, 0, false⟩, ⟨2064, f, y2, false⟩, ⟨2072, c, (c : Int) - 1, false⟩] : List Ent) = qEnts 256 P m.ins f c (x : Int) := by
  unfold qEnts qpW qfW qcW
  rw [hins, hy1, hy2]
  simp only [Bool.false_eq_true, if_false, List.cons.injEq, Ent.mk.injEq, and_true, true_and]
  omega
 have hbz := HH.out.bz
 have HCM := Lib.hid (fun (W : World) (hW : Below W2.heap.size W2 W) => qoCommit (hP2.bl0 hW) hn (show κ a ≠ 0 by have := HH.out.ka; have := HH.out.r3; omega) (show κ q ≠ 0 by have := HH.out.kq; omega) (hQ2.below hW) HH.out.qa (hO2.below hW) HH.out.th (HH.out.er _) (2112 + 8 * (y1 : Int)) x 0 y2 ((c : Int) - 1) (by have : y1 < P := (by rw [← hy1]; exact Nat.mod_lt _ (by omega)); omega) (by omega) (by omega)
  (by rw [hes]; exact entsB_q ⟨by omega, by omega⟩ hf hcP (fun _ => hc0) (fun h => by rw [hins] at h; cases h) (by omega) hn2) (idx_first (by omega)) (by omega))
 have HP2 := Lib.hid hP2
 have HC2 := Lib.hid hC2
 have HQ2 := Lib.hid hQ2
 have HES := Lib.hid hes
 have e1 : IntKind.u64.wrap ((f : Int) + 1) = (f : Int) + 1 := IntWalk.u64_in _ (by omega)
 have e2 : IntKind.u64.wrap ((c : Int) - 1) = (c : Int) - 1 := IntWalk.u64_in _ (by omega)
 have e3 : ((f : Int) + 1).tmod (P : Int) = (y2 : Int) := by
  rw [Int.tmod_eq_emod_of_nonneg (by omega), ← hy2, show ((f : Int) + 1) = ((f + 1 : Nat) : Int) by omega]
  omega
 have e4 : ¬ (P : Int) = 0 := by omega
 have e5 : ¬ P = 0 := by omega
 clear hW2 hP2 hQ2 hC2 hO2 hP hn2 hn hes hbz hy1 hy2 hf hc0 hcP hxr
 go_region_held3 (fun w' => w'.cell? ⟨a, 0, none⟩ = some (.pointer (some ⟨q, 0, none⟩)) ∧ w'.cell? ⟨a, 7, none⟩ = some (.int .u64 f) ∧ w'.cell? ⟨a, 8, none⟩ = some (.int .u64 c) ∧ a < w'.heap.size)
  ((refine ⟨?_, ?_, ?_, ?_⟩ <;> first | assumption | (go_simp; done) | (simp; omega)))
  (first
    | (go_at_call 44; (with_reducible refine (HPLC.out _ (by (repeat (first | with_reducible (first | exact Below.refl _ _ | refine bl_alloc ?_ _ | refine bl_drew ?_ | refine bl_drewN ?_ _ | refine bl_bx ?_ _ | exact BX.below _ | refine bl_set ?_ (by first | (exact Nat.le_refl _) | (simp; done) | (simp; omega)) _) | assumption)))).mono ?_); rintro e w3 ⟨rfl, rfl⟩)
    | (go_at_call 42; (with_reducible refine (HPX.out _ (by (repeat (first | with_reducible (first | exact Below.refl _ _ | refine bl_alloc ?_ _ | refine bl_drew ?_ | refine bl_drewN ?_ _ | refine bl_bx ?_ _ | exact BX.below _ | refine bl_set ?_ (by first | (exact Nat.le_refl _) | (simp; done) | (simp; omega)) _) | assumption)))).mono ?_); rintro e w3 ⟨rfl, n3, rfl⟩)
    | (go_at_call 97; (with_reducible refine (HCM.out _ (by (repeat (first | with_reducible (first | exact Below.refl _ _ | refine bl_alloc ?_ _ | refine bl_drew ?_ | refine bl_drewN ?_ _ | refine bl_bx ?_ _ | exact BX.below _ | refine bl_set ?_ (by first | (exact Nat.le_refl _) | (simp; done) | (simp; omega)) _) | assumption)))).mono ?_); rintro e w3 ⟨x', order, rfl, hx, hpm, hO, hP, hC⟩; have HX := Lib.hid hx; have HPM := Lib.hid hpm; have HO := Lib.hid hO; have HP := Lib.hid hP; have HCH := Lib.hid hC; have s0 := hO.oc.c0; have s8 := hO.oc.c8; have s7 := hO.oc.c7; have sl := hO.oc.lt; clear hx hpm hO hP hC))
 all_goals
  have HB5 : Hid (Below W2.heap.size W2 (W2.drewN (1 + n3))) := by show Below _ _ _; (repeat (first | with_reducible (first | exact Below.refl _ _ | refine bl_alloc ?_ _ | refine bl_drew ?_ | refine bl_drewN ?_ _ | refine bl_bx ?_ _ | exact BX.below _ | refine bl_set ?_ (by first | (exact Nat.le_refl _) | (simp; done) | (simp; omega)) _) | assumption))
  obtain ⟨W5, hW5⟩ : ∃ W5, W2.drewN (1 + n3) = W5 := ⟨_, rfl⟩
  rw [hW5] at HX HCH HB5
  clear hW5 s0 s8 s7
  go_wp2
  exact bodyPost_ret (v := .tuple #[]) (by simp [results, Tryz.results68, go_sem]) rfl (qoCom HH.out.ka HH.out.kq HH.out.r3 (HC2.out.trans (Ch.of_below (S := fun _ => False) HB5.out) (fun b hb _ => hb.elim)) HH.out.qa (HQ2.out.below HB5.out) (HP2.out.bl0 HB5.out) HX.out HPM.out HES.out HO.out HP.out HCH.out)
end
section
variable {κ : Nat → Nat} {r p d q a g n P lines : Nat} {t : Nat → Nat} {w w' : World} {σ : PwS} {m : QM} {bs : Nat → Option Nat} {rs : RdS} {s x : Nat} {v f' c' : Int}
theorem QoPost.toB {v : Value} {F : Nat × List Nat → PwS × QPh} {σ' : PwS} {ph : QPh} {e : Ending} {w' : World} (hP : PMx (fun b => κ b ≠ 0) p d t 0 32 ((n : Int) * 64) w σ) (h : QoPost κ r p d q a n lines t w bs v σ' { m with ph := ph } e w') (hF : ∀ bl, F bl = (σ', ph)) : QoPostB κ r p d q a n lines t w bs v σ F m e w' := by
 refine ⟨(w.heap.size, List.range 3), hP.opNo (Nat.le_refl _), List.Perm.refl _, ?_⟩
 rw [hF]
 exact h
/-- Behind a read that has ended. -/
theorem qoLoaded {f c : Nat} {raw : Int} (h : LdIn κ r p d q a g n P lines t w σ m bs s v f' c' x) (hraw : raw % 1099511627776 = (x : Int)) (hs : s = 1 ∨ s = 2 ∨ (s = 3 ∧ m.ins = false ∧ 0 < c ∧ c ≤ P)) (hf : s ≠ 1 → f < P ∧ f' = (f : Int)) (hc : s = 3 → c' = (c : Int)) (hv : m.ins = true → v = m.val) (hvl : 0 ≤ m.val ∧ m.val < 1099511627776) (h1 : s = 1 → x < P) (h2 : s = 2 → x ≤ P) :
 Calls Tryz.prog 68 #[.pointer (some ⟨a, 0, none⟩)] w (QoPostB κ r p d q a n lines t w bs (.tuple #[]) σ (qLoad 256 P σ m.th m.ins m.val s f c raw) m) := by
 rcases hs with rfl | rfl | ⟨rfl, hi, hc0, hcP⟩
 · refine (qoLoaded1 h hv).mono (fun e w' hh => hh.toB h.pm (fun bl => ?_))
   unfold qLoad
   rw [if_pos rfl, hraw, Int.toNat_natCast]
 · obtain ⟨hfP, rfl⟩ := hf (by omega)
   cases hins : m.ins with
   | true =>
     by_cases hx : P ≤ x
     · refine (qoLoaded2e h 4 (.inl ⟨hins, hx, rfl⟩)).mono (fun e w' hh => hh.toB h.pm (fun bl => ?_))
       unfold qLoad
       rw [if_neg (by omega), if_pos rfl, hraw, if_pos rfl, if_pos (by omega)]
     · obtain rfl := hv hins
       have := qoLoaded2b h hins (by omega) hfP hvl
       rw [hins] at this
       refine this.mono (fun e w' hh => ?_)
       have e1 : qLoad 256 P σ m.th true m.val 2 f c raw = qBeg 256 P σ m.th true f x m.val := by
        funext bl
        unfold qLoad
        rw [if_neg (by omega), if_pos rfl, hraw, if_pos rfl, if_neg (by omega), Int.toNat_natCast]
       rw [e1]
       exact hh
   | false =>
     by_cases hx : x = 0
     · refine (qoLoaded2e h 5 (.inr ⟨hins, hx, rfl⟩)).mono (fun e w' hh => hh.toB h.pm (fun bl => ?_))
       unfold qLoad
       rw [if_neg (by omega), if_pos rfl, hraw, if_neg (by simp), if_pos (by omega)]
     · refine (qoLoaded2d h hins hx hfP).mono (fun e w' hh => hh.toB h.pm (fun bl => ?_))
       unfold qLoad
       rw [if_neg (by omega), if_pos rfl, hraw, if_neg (by simp), if_neg (by omega), Int.toNat_natCast]
 · obtain ⟨hfP, rfl⟩ := hf (by omega)
   obtain rfl := hc rfl
   refine (qoLoaded3 h hi hfP hc0 hcP).mono (fun e w' hh => ?_)
   have e1 : qLoad 256 P σ m.th m.ins m.val 3 f c raw = qBeg 256 P σ m.th m.ins f c (x : Int) := by
    funext bl
    unfold qLoad
    rw [if_neg (by omega), if_neg (by omega), hraw]
   rw [e1]
   exact hh
/-- What a call needs behind its change: it has ended. -/
structure ChIn (κ : Nat → Nat) (r p d q a n lines : Nat) (t : Nat → Nat) (w : World) (σ : PwS) (m : QM) (bs : Nat → Option Nat) (s : Nat) (rd : Option Nat) (x : Nat) (v f c : Int) (o : OpS) : Prop where
 pm : PMx (fun b => κ b ≠ 0) p d t 0 32 ((n : Int) * 64) w σ
 hn : n < 1000
 hn2 : 264 ≤ 8 * n
 hq : CB w q 93 (qcells d p 2048 lines bs)
 kq : κ q = 2
 ka : κ a = r
 r3 : 3 ≤ r
 th : m.th < 8
 bs : bs m.th = some a
 hc : CB w a 106 (qocells q m.th m.ins v s rd (some x) f c 0 false)
 ho : σ.ops x = some o
 he : o.ended = true
 e0 : o.err = 0
set_option maxRecDepth 100000 in
set_option maxHeartbeats 4000000 in
theorem qoChanged {rd : Option Nat} {o : OpS} (h : ChIn κ r p d q a n lines t w σ m bs s rd x v f' c' o) (hv : m.ins = true → v = m.val) :
 Calls Tryz.prog 65 #[.pointer (some ⟨a, 0, none⟩)] w (QoPost κ r p d q a n lines t w bs (.tuple #[]) σ { m with ph := if o.changed then .fin v 0 else .rd 1 0 0 (rd0 m.th (qfW 256)) }) := by
 have HH := Lib.hid h
 have HOE : Hid (∀ W, Below w.heap.size w W → ∀ x' o', PMx (fun b => κ b ≠ 0) p d t 0 32 ((n : Int) * 64) W σ → σ.ops x' = some o' → (Calls Tryz.prog 90 #[.pointer (some ⟨x', 0, none⟩)] W fun e w' => e = .returned (.bool (o'.ended && (decide (o'.err = 0) && o'.changed))) ∧ Below W.heap.size W w') ∧ Calls Tryz.prog 88 #[.pointer (some ⟨x', 0, none⟩)] W fun e w' => e = .returned (.int .i64 o'.err) ∧ Below W.heap.size W w') := fun W _ x' o' hP ho => by
  obtain ⟨role, bb, h, hK⟩ := hP
  exact ⟨opOK (h.op x' o' ho), opErr (h.op x' o' ho)⟩
 have hqa : q ≠ a := fun he => by have h1 := h.kq; have h2 := h.ka; have h3 := h.r3; rw [he] at h1; omega
 have HQA := Lib.hid hqa
 have hK : κ a ≠ 0 := by have := h.ka; have := h.r3; omega
 have hC : Ch (At a) w (w.setCell ⟨a, 6, none⟩ (.pointer none)) := (Ch.refl _ _).set1 _ _
 have hP2 : PMx (fun b => κ b ≠ 0) p d t 0 32 ((n : Int) * 64) (w.setCell ⟨a, 6, none⟩ (.pointer none)) σ := h.pm.chK hC (fun b _ hb => by rw [show b = a from hb]; exact hK)
 have hO2 : CB (w.setCell ⟨a, 6, none⟩ (.pointer none)) a 106 (qocells q m.th m.ins v s rd none f' c' 0 false) := h.hc.set 6 _
 have hQ2 : CB (w.setCell ⟨a, 6, none⟩ (.pointer none)) q 93 (qcells d p 2048 lines bs) := h.hq.keep (hC.block q h.hq.lt (fun hx => hqa hx))
 have hC2 : Ch (fun b => κ b = 0 ∨ κ b = r ∨ κ b = 2) w (w.setCell ⟨a, 6, none⟩ (.pointer none)) := hC.mono (fun b hb _ => .inr (.inl (by rw [show b = a from hb]; exact h.ka)))
 obtain ⟨c0, c1, c2, c3, c4, c5, c6, c7, c8, c9, c10, hl, hff⟩ := h.hc.oc
 rw [optP_some] at c6
 have hf6 := hff 6
 obtain ⟨W2, hW2⟩ : ∃ W2, w.setCell ⟨a, 6, none⟩ (.pointer none) = W2 := ⟨_, rfl⟩
 rw [hW2] at hP2 hO2 hQ2 hC2
 have hE : ∀ W, Below W2.heap.size W2 W → (Calls Tryz.prog 90 #[.pointer (some ⟨x, 0, none⟩)] W fun e w' => e = .returned (.bool o.changed) ∧ Below W.heap.size W w') ∧ Calls Tryz.prog 88 #[.pointer (some ⟨x, 0, none⟩)] W fun e w' => e = .returned (.int .i64 0) ∧ Below W.heap.size W w' := fun W hW => by
  obtain ⟨role, bb, hh, hK⟩ := hP2.bl0 hW
  have h1 := opOK (hh.op x o h.ho)
  have h2 := opErr (hh.op x o h.ho)
  rw [h.he, h.e0] at h1
  rw [h.e0] at h2
  refine ⟨?_, h2⟩
  simpa using h1
 have HE := Lib.hid hE
 have HW : Hid (∀ W, Below W2.heap.size W2 W → Calls Tryz.prog 60 #[.pointer (some ⟨q, 0, none⟩), .int .i64 2] W fun e w' => e = .returned (.int .u64 2064) ∧ W = w') := fun W hW => by
  have := quWord (hQ2.qc.bl hW) 2 (by omega) (by omega); simpa using this
 have HND := Lib.hid (fun (W : World) (hW : Below W2.heap.size W2 W) => qoEnd (hQ2.below hW) hqa (hO2.below hW) h.th h.bs 0)
 have hlde := fun (W : World) (hW : Below W2.heap.size W2 W) => qoLoad (rd0' := rd) (hP2.bl0 hW) h.hn hK (hQ2.below hW) (hO2.below hW) h.th 1 258 ⟨by omega, by have := h.hn2; omega⟩
 rw [show (8 * ((258 : Nat) : Int)) = 2064 from rfl, show ((1 : Nat) : Int) = 1 from rfl] at hlde
 have HLD := Lib.hid hlde
 have HP2 := Lib.hid hP2
 have HC2 := Lib.hid hC2
 have HQ2 := Lib.hid hQ2
 have HO2 := Lib.hid hO2
 obtain ⟨k0, _, _, _, _, _, k6, _, _, _, _, hl2, _⟩ := hO2.oc
 obtain ⟨chg, hch⟩ : ∃ chg, o.changed = chg := ⟨_, rfl⟩
 rw [hch] at HE ⊢
 clear h hqa hK hC hP2 hO2 hQ2 hC2 hff hE hlde HOE hch c0 c1 c2 c3 c4 c5 c7 c8 c9 c10
 go_enter Tryz.func65, Tryz.ntmps65
 go_upto_region 2 with (fail)
 try rw [hW2]
 clear hW2 c6 hl hf6
 cases chg with
 | true =>
   go_upto_region 7 with (first
    | (go_at_call 88; (with_reducible refine (HE.out _ (by (repeat (first | with_reducible (first | exact Below.refl _ _ | refine bl_alloc ?_ _ | refine bl_drew ?_ | refine bl_drewN ?_ _ | refine bl_bx ?_ _ | exact BX.below _ | refine bl_set ?_ (by first | (exact Nat.le_refl _) | (simp; done) | (simp; omega)) _) | assumption)))).2.mono ?_); rintro e w3 ⟨rfl, hb⟩; obtain ⟨y, rfl⟩ := bx_of hb; clear hb)
    | (go_at_call 90; (with_reducible refine (HE.out _ (by (repeat (first | with_reducible (first | exact Below.refl _ _ | refine bl_alloc ?_ _ | refine bl_drew ?_ | refine bl_drewN ?_ _ | refine bl_bx ?_ _ | exact BX.below _ | refine bl_set ?_ (by first | (exact Nat.le_refl _) | (simp; done) | (simp; omega)) _) | assumption)))).1.mono ?_); rintro e w3 ⟨rfl, hb⟩; obtain ⟨z, rfl⟩ := bx_of hb; clear hb))
   have HB5 : Hid (Below W2.heap.size W2 z.w) := by show Below _ _ _; (repeat (first | with_reducible (first | exact Below.refl _ _ | refine bl_alloc ?_ _ | refine bl_drew ?_ | refine bl_drewN ?_ _ | refine bl_bx ?_ _ | exact BX.below _ | refine bl_set ?_ (by first | (exact Nat.le_refl _) | (simp; done) | (simp; omega)) _) | assumption))
   obtain ⟨W5, hW5⟩ : ∃ W5, z.w = W5 := ⟨_, rfl⟩
   rw [hW5] at HB5 ⊢
   have HND5 := Lib.hid (HND.out _ HB5.out)
   clear hW5
   go_wp2_with (go_at_call 89; (with_reducible refine HND5.out.mono ?_); rintro e w3 ⟨rfl, t1, t2, t3⟩; have T1 := Lib.hid t1; have T2 := Lib.hid t2; have T3 := Lib.hid t3; clear t1 t2 t3)
   exact bodyPost_ret (v := .tuple #[]) (by simp [results, Tryz.results65, go_sem]) rfl (qoFin HH.out.ka HH.out.kq HH.out.r3 (HP2.out.bl0 HB5.out) (HC2.out.trans (Ch.of_below (S := fun _ => False) HB5.out) (fun b hb _ => hb.elim)) T1.out T2.out T3.out (fun _ => rfl) (fun h => absurd rfl h))
 | false =>
   go_upto_region 3 with (first
    | (go_at_call 88; (with_reducible refine (HE.out _ (by (repeat (first | with_reducible (first | exact Below.refl _ _ | refine bl_alloc ?_ _ | refine bl_drew ?_ | refine bl_drewN ?_ _ | refine bl_bx ?_ _ | exact BX.below _ | refine bl_set ?_ (by first | (exact Nat.le_refl _) | (simp; done) | (simp; omega)) _) | assumption)))).2.mono ?_); rintro e w3 ⟨rfl, hb⟩; obtain ⟨y, rfl⟩ := bx_of hb; clear hb)
    | (go_at_call 90; (with_reducible refine (HE.out _ (by (repeat (first | with_reducible (first | exact Below.refl _ _ | refine bl_alloc ?_ _ | refine bl_drew ?_ | refine bl_drewN ?_ _ | refine bl_bx ?_ _ | exact BX.below _ | refine bl_set ?_ (by first | (exact Nat.le_refl _) | (simp; done) | (simp; omega)) _) | assumption)))).1.mono ?_); rintro e w3 ⟨rfl, hb⟩; obtain ⟨z, rfl⟩ := bx_of hb; clear hb))
   have HB5 : Hid (Below W2.heap.size W2 z.w) := by show Below _ _ _; (repeat (first | with_reducible (first | exact Below.refl _ _ | refine bl_alloc ?_ _ | refine bl_drew ?_ | refine bl_drewN ?_ _ | refine bl_bx ?_ _ | exact BX.below _ | refine bl_set ?_ (by first | (exact Nat.le_refl _) | (simp; done) | (simp; omega)) _) | assumption))
   obtain ⟨W5, hW5⟩ : ∃ W5, z.w = W5 := ⟨_, rfl⟩
   rw [hW5] at HB5 ⊢
   have HLD5 := Lib.hid (HLD.out _ HB5.out)
   have HW5 := Lib.hid (HW.out _ HB5.out)
   have z0 : W5.cell? ⟨a, 0, none⟩ = some (.pointer (some ⟨q, 0, none⟩)) := (HO2.out.below HB5.out).oc.c0
   have hl5 : a < W5.heap.size := (HO2.out.below HB5.out).lt
   clear hW5
   go_wp2_with (first
    | (go_at_call 60; (with_reducible refine HW5.out.mono ?_); rintro e w3 ⟨rfl, rfl⟩)
    | (go_at_call 66; (with_reducible refine HLD5.out.mono ?_); rintro e w3 ⟨g3, rfl, t1, t2, t3, t4, t5⟩; have T1 := Lib.hid t1; have T2 := Lib.hid t2; have T3 := Lib.hid t3; have T4 := Lib.hid t4; have T5 := Lib.hid t5; clear t1 t2 t3 t4 t5))
   refine bodyPost_ret (v := .tuple #[]) (by simp [results, Tryz.results65, go_sem]) rfl ?_
   have hC5 : Ch (fun b => κ b = 0 ∨ κ b = r ∨ κ b = 2) w W5 := HC2.out.trans (Ch.of_below (S := fun _ => False) HB5.out) (fun b hb _ => hb.elim)
   have hQ5 := HQ2.out.below HB5.out
   refine ⟨rfl, rolN κ W5 w3 r, fun b hb => rolN_old (Nat.lt_of_lt_of_le hb hC5.size), T4.out.rolN, ⟨by rw [rolN_old hl5]; exact HH.out.ka, g3, v, f', c', T2.out, fun hx => absurd rfl hx, fun hx => by omega, hv, T3.out, rolN_new T1.out T3.out.lt, by have := T1.out; omega⟩, ?_, hC5.trans T5.out (fun b hb _ => .inr (.inl (by rw [show b = a from hb]; exact HH.out.ka)))⟩
   exact hQ5.keep (T5.out.block q hQ5.lt (fun hx => HQA.out hx))
end
end Go.Proofs.YtaefkelaffijbaaGreatDoor
