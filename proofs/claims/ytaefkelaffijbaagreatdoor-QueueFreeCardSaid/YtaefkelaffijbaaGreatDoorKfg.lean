/- Operations: advance, step (merged). -/
import Derived.Test.YtaefkelaffijbaaGreatDoorKff
import Derived.Test.YtaefkelaffijbaaGreatDoorKfc
namespace Go.Proofs.YtaefkelaffijbaaGreatDoor
open Go.RowKit
set_option linter.unusedVariables false
set_option linter.unusedSimpArgs false
theorem neq_op_same (W : World) (a : Nat) : (binOp .neq 104 (.pointer (some ⟨a, 0, none⟩)) (.pointer (some ⟨a, 0, none⟩))).run Tryz.prog W = .ok (.bool false) W := by
 obtain ⟨j, hj, _⟩ := info_op
 have h : ∀ d : Nat, (Op.equalIn (d + 1) 104 (.pointer (some ⟨a, 0, none⟩)) (.pointer (some ⟨a, 0, none⟩))).run Tryz.prog W = .ok true W := fun d => by
  simp [Op.equalIn, run_underlying (show Tryz.prog.underlying 104 = some (.pointer 162) from Tryz.underlying104), sizeOf, typeInfo, hj, run_sameAddr_same]
 simp only [binOp]
 simp [Op.equal, Op.maxDepth, h 9999]
theorem neq_op_nil (W : World) (a : Nat) : (binOp .neq 104 (.pointer none) (.pointer (some ⟨a, 0, none⟩))).run Tryz.prog W = .ok (.bool true) W := by
 obtain ⟨j, hj, _⟩ := info_op
 have h : ∀ d : Nat, (Op.equalIn (d + 1) 104 (.pointer none) (.pointer (some ⟨a, 0, none⟩))).run Tryz.prog W = .ok false W := fun d => by
  simp [Op.equalIn, run_underlying (show Tryz.prog.underlying 104 = some (.pointer 162) from Tryz.underlying104), sizeOf, typeInfo, hj]
 simp only [binOp]
 simp [Op.equal, Op.maxDepth, h 9999]
theorem neq_op_other {W : World} {a c : Nat} {ca cc : Array Value} (hne : c ≠ a) (hc : CB W c 162 cc) (ha : CB W a 162 ca) : (binOp .neq 104 (.pointer (some ⟨c, 0, none⟩)) (.pointer (some ⟨a, 0, none⟩))).run Tryz.prog W = .ok (.bool true) W := by
 obtain ⟨j, hj, hs⟩ := info_op
 have hne' : (⟨c, 0, none⟩ : Addr) ≠ ⟨a, 0, none⟩ := fun he => hne (by injection he)
 have h : ∀ d : Nat, (Op.equalIn (d + 1) 104 (.pointer (some ⟨c, 0, none⟩)) (.pointer (some ⟨a, 0, none⟩))).run Tryz.prog W = .ok false W := fun d => by
  simp [Op.equalIn, run_underlying (show Tryz.prog.underlying 104 = some (.pointer 162) from Tryz.underlying104), sizeOf, typeInfo, hj, hs, run_sameAddr_other W hne' hc ha]
 simp only [binOp]
 simp [Op.equal, Op.maxDepth, h 9999]
section
variable {role : Nat → Nat} {K : Nat → Prop} {p d bb c a line lines : Nat} {t : Nat → Nat} {size : Int} {w w2 : World} {σ : PwS} {o oc : OpS} {cnt n N : Nat} {M : Nat → Prop} {xs : List Int}
/-- Where an operation's thread is changes. -/
theorem PMx.posSet (H : PMx K p d t line lines size w σ) (ha : σ.ops a = some o) (c s j : Nat) :
 PMx K p d t line lines size (((w.setCell ⟨a, 13, none⟩ (.pointer (some ⟨c, 0, none⟩))).setCell ⟨a, 14, none⟩ (.int .i64 s)).setCell ⟨a, 15, none⟩ (.int .i64 j)) (σ.setOp a (o.pos c s j)) ∧ Ch (fun b => ¬ K b) w (((w.setCell ⟨a, 13, none⟩ (.pointer (some ⟨c, 0, none⟩))).setCell ⟨a, 14, none⟩ (.int .i64 s)).setCell ⟨a, 15, none⟩ (.int .i64 j)) := by
 obtain ⟨role, bb, h, hK⟩ := H
 have hO := h.op a o ha
 have hC : Ch (At a) w (((w.setCell ⟨a, 13, none⟩ (.pointer (some ⟨c, 0, none⟩))).setCell ⟨a, 14, none⟩ (.int .i64 s)).setCell ⟨a, 15, none⟩ (.int .i64 j)) := (((Ch.refl _ _).set1 _ _).set1 _ _).set1 _ _
 exact PMx.opSet h hK (hC.mono (fun b hb _ => by rw [show b = a from hb]; exact hO.ra)) (hO.of_cells (o' := o.pos c s j) hC (fun _ _ _ _ _ _ _ _ hcb => ((hcb.set _ _).set _ _).set _ _) rfl rfl rfl rfl)
theorem PMx.nextSet (H : PMx K p d t line lines size w σ) (ha : σ.ops a = some o) (j : Nat) :
 PMx K p d t line lines size (w.setCell ⟨a, 15, none⟩ (.int .i64 j)) (σ.setOp a { o with next := j }) ∧ Ch (fun b => ¬ K b) w (w.setCell ⟨a, 15, none⟩ (.int .i64 j)) := by
 obtain ⟨role, bb, h, hK⟩ := H
 have hO := h.op a o ha
 have hC : Ch (At a) w (w.setCell ⟨a, 15, none⟩ (.int .i64 j)) := (Ch.refl _ _).set1 _ _
 exact PMx.opSet h hK (hC.mono (fun b hb _ => by rw [show b = a from hb]; exact hO.ra)) (hO.of_cells (o' := { o with next := j }) hC (fun _ _ _ _ _ _ _ _ hcb => hcb.set _ _) rfl rfl rfl rfl)
/-- A thread's error. -/
theorem PMx.err (H : PMx K p d t line lines size w σ) (i : Nat) (hi : i < 8) : Calls Tryz.prog 62 #[.pointer (some ⟨t i, 0, none⟩)] w fun e w' => e = .returned (.int .i64 (σ.dev.thr i).err) ∧ w = w' := by
 obtain ⟨role, bb, h, hK⟩ := H
 exact vErr h.dv i hi
/-- The cells that a step reads. -/
theorem PMx.opc (H : PMx K p d t line lines size w σ) (ha : σ.ops a = some o) : a < w.heap.size ∧ p ≠ a ∧ (∀ i, w.frozen? ⟨a, i, none⟩ = false) ∧ ∃ ea ec oa ock sb sc pa pc, OpC w p t a o ea ec oa ock sb sc pa pc ∧ Sl 144 3 w pa o.prog.length pc (pcells o.prog) := by
 obtain ⟨role, bb, h, hK⟩ := H
 obtain ⟨ea, ec, oa, ock, sb, sc, pa, pc, h1, h2, h3, h4, h4', h5, r1, _⟩ := h.op a o ha
 exact ⟨h1.lt, fun he => by have := h.rp; rw [he, r1] at this; omega, fun i => h1.frozen i, ea, ec, oa, ock, sb, sc, pa, pc, h1.opc, h5⟩
theorem PMx.cbx (H : PMx K p d t line lines size w σ) (ha : σ.ops a = some o) : ∃ cs, CB w a 162 cs := by
 obtain ⟨role, bb, h, hK⟩ := H
 obtain ⟨_, _, _, _, _, _, _, _, h1⟩ := (h.op a o ha).cb
 exact ⟨_, h1⟩
theorem getD_eq {α : Type} (l : List α) (d : α) {j : Nat} (h : j < l.length) : l.getD j d = l[j] := by rw [List.getD_eq_getElem?_getD, List.getElem?_eq_getElem h]; rfl

set_option maxRecDepth 100000 in
set_option maxHeartbeats 8000000 in
theorem opAdvance (H : PMx K p d t line lines size w σ) (hK0 : K 0) (hT : Tab w) (ha : σ.ops a = some o) (hoc : σ.ops c = some oc) (hok : OpOk cnt n M oc) (hoka : OpOk cnt n M o) (hon : On σ.dev n xs N) (hN : N < 1000000) (hn : n < 100000) (hl : line + 4 * oc.k < 100000) (hbd : 3 * oc.es.length ≤ 18)
 (htg : ∀ b, o.tgt = some b → ∃ ob, σ.ops b = some ob)
 (h0 : oc.stage = 0 → oc.loaded < oc.order.length ∧ ∃ v, xs[wdE oc.es (oc.order.getD oc.loaded 0)]? = some v ∧ 0 ≤ v ∧ v < 4611686018427387904)
 (h1 : oc.stage ≠ 0 → oc.stage ≤ 4 ∧ o.jat c oc.stage < oc.prog.length ∧ oc.prog.length ≤ 37 ∧ vIns n (oc.prog.getD (o.jat c oc.stage) (0, 0, 0))) :
 Calls Tryz.prog 87 #[.pointer (some ⟨a, 0, none⟩), .pointer (some ⟨c, 0, none⟩)] w fun r w' => r = .returned (.tuple #[]) ∧ PMx K p d t line lines size w' (σ.adv sumI (atW line) a o c oc) ∧ Ch (fun b => ¬ K b) w w' := by
 have HP := Lib.hid H
 obtain ⟨HLa, hpa, fa, _, _, _, _, _, _, _, _, CA, _⟩ := H.opc ha
 obtain ⟨HLc, hpc, fc, _, _, _, _, _, _, _, _, CC, _⟩ := H.opc hoc
 have c1 := CA.c1
 have c7 := CC.c7
 by_cases hs : oc.stage = 0
 · obtain ⟨g1, v, g2, g3⟩ := h0 hs
   have HLO := Lib.hid (opLoad H hK0 hT hoc hok hon hn hl hbd g1 g2 g3 o.th hoka.th)
   have HQ : Hid (σ.adv sumI (atW line) a o c oc = σ.load sumI (atW line) c oc o.th) := by show _ = _; unfold PwS.adv; rw [if_pos hs]
   rw [hs] at c7
   clear h0 h1 hok hoka hon hT H CA CC g1 g2 g3 hl hbd htg
   go_enter Tryz.func87, Tryz.ntmps87
   go_wp2_with (go_at_call 107; refine HLO.out.mono ?_; rintro e w5 ⟨rfl, hX, hC⟩; have HX5 := Lib.hid hX; have HC5 := Lib.hid hC; clear hX hC)
   refine bodyPost_ret (v := .tuple #[]) (by simp [results, Tryz.results87, go_sem]) rfl ?_
   rw [HQ.out]
   exact ⟨rfl, HX5.out, HC5.out⟩
 · obtain ⟨h4, hj, hj37, hv⟩ := h1 hs
   have hs' : ((oc.stage : Int) == 0) = false := by rw [beq_eq_false_iff_ne]; omega
   obtain ⟨j, hje⟩ : ∃ j, o.jat c oc.stage = j := ⟨_, rfl⟩
   have hoth := hoka.th
   have hon1 := hon.ins o.th hoth hN hv
   have HQ := Lib.hid (adv_eq (sum := sumI) (at0 := atW line) σ a o c oc hs (hon1.err _))
   rw [hje] at hj hv hon1 HQ
   obtain ⟨q, hq⟩ : ∃ q, oc.prog.getD j (0, 0, 0) = q := ⟨_, rfl⟩
   rw [hq] at hv hon1 HQ
   have hqn := hv.num (by omega)
   have HEXE := Lib.hid (fun (W : World) (F : Nat → Prop) (hD : DV F d t W σ.dev) => pwExecute W hD o.th hoth hon.good hN q hqn.1 hqn.2)
   have HOK := Lib.hid hok
   have HT := Lib.hid hT
   have HON1 := Lib.hid hon1
   have HQE : Hid (oc.prog[j]'hj = q) := by show _ = _; rw [← hq, getD_eq _ _ hj]
   have HOC := Lib.hid hoc
   have HA := Lib.hid ha
   obtain ⟨s, hse⟩ : ∃ s, oc.stage = s := ⟨_, rfl⟩
   have HSE := Lib.hid hse
   have HJE := Lib.hid hje
   have HLI := Lib.hid hl
   have HSNZ : Hid (1 ≤ s ∧ s ≤ 4) := by show _ ∧ _; omega
   have HBD := Lib.hid hbd
   rw [hse] at c7 hs' h4 HQ
   have hps := fun (W : World) => neq_op_same W c
   have hpn := fun (W : World) => neq_op_nil W c
   have c13 := CA.c13
   have c14 := CA.c14
   have c15 := CA.c15
   have f13 := fa 13
   have f14 := fa 14
   have f15 := fa 15
   clear h0 h1 hok hoka hon hT CA CC hl hbd hq hv hon1 hqn fa fc hse
   cases htgt : o.tgt with
   | none =>
    have HJ0 : Hid (j = 0) := by show _ = _; rw [← HJE.out]; unfold OpS.jat; rw [if_neg (by rw [htgt]; simp)]
    rw [htgt] at c13
    clear htgt htg
    go_enter Tryz.func87, Tryz.ntmps87
    go_wp2
    go_quiet (fail)
    go_upto_region 4 with (fail)
    obtain ⟨W1, hW1⟩ : ∃ W1, ((((w.drewN nq).setCell ⟨a, 13, none⟩ (.pointer (some ⟨c, 0, none⟩))).setCell ⟨a, 14, none⟩ (.int .i64 s)).setCell ⟨a, 15, none⟩ (.int .i64 0)) = W1 := ⟨_, rfl⟩
    have HPC := PMx.posSet (HP.out.bl0 (below_drewN (Below.refl _ _) nq)) HA.out c s 0
    have HP1 : Hid (PMx K p d t line lines size W1 (σ.setOp a (o.pos c s j))) := by rw [← hW1, HJ0.out]; exact HPC.1
    have HC1 : Hid (Ch (fun b => ¬ K b) w W1) := by rw [← hW1]; exact (Ch.of_below (S := fun b => ¬ K b) (below_drewN (Below.refl _ _) nq)).trans HPC.2 (fun _ hb _ => hb)
    rw [hW1]
    clear hW1 HPC
    clear hps hpn
    have HT1 : Hid (Tab W1) := HT.out.ch HC1.out (fun h0 => h0 hK0)
    clear c1 c7 c13 c14 c15 f13 f14 f15 HLa HLc hpa hpc
    obtain ⟨oc1, hoc1, hocp, hocs⟩ : ∃ oc1, (σ.setOp a (o.pos c s j)).ops c = some oc1 ∧ oc1.prog = oc.prog ∧ oc1.stage = oc.stage := by
     by_cases hca : c = a
     · have : oc = o := by have h1 := HOC.out; have h2 := HA.out; rw [hca, h2] at h1; injection h1 with h1; exact h1.symm
       exact ⟨o.pos c s j, if_pos hca, by rw [this]; rfl, by rw [this]; rfl⟩
     · exact ⟨oc, (if_neg hca).trans HOC.out, rfl, rfl⟩
    obtain ⟨HLa, hpa, fa, _, _, _, _, _, _, _, _, CA, _⟩ := HP1.out.opc (a := a) (o := o.pos c s j) (if_pos rfl)
    obtain ⟨HLc, hpc, fc, _, _, _, _, _, _, pa, pc, CC, SP⟩ := HP1.out.opc hoc1
    rw [hocp] at SP
    have c1 : W1.cell? ⟨a, 1, none⟩ = some (.pointer (some ⟨t o.th, 0, none⟩)) := CA.c1
    have c15 : W1.cell? ⟨a, 15, none⟩ = some (.int .i64 j) := CA.c15
    have c8 : W1.cell? ⟨c, 8, none⟩ = some (.slice pa oc.prog.length pc) := by have := CC.c8; rwa [hocp] at this
    obtain ⟨g, off, hA', hgl, t1, t2, t3⟩ := SP.ins hj
    rw [HQE.out] at t1 t2 t3
    subst hA'
    have HEX := Lib.hid (fun (W : World) (HW : PMx K p d t line lines size W (σ.setOp a (o.pos c s j))) => pwDev HW (fun F hD => HEXE.out W F hD))
    obtain ⟨m, hm⟩ : ∃ m, oc.prog.length = m := ⟨_, rfl⟩
    have HM := Lib.hid hm
    rw [hm] at c8 hj hj37 HQ
    have hjI : (j : Int) < (m : Int) := by omega
    have e1 : IntKind.i64.wrap ((j : Int) + 1) = (j : Int) + 1 := IntWalk.i64_in _ (by omega)
    have e2 : IntKind.i64.wrap ((s : Int) + 1) = (s : Int) + 1 := IntWalk.i64_in _ (by omega)
    have HER := Lib.hid (HON1.out.err o.th)
    have HOC1 := Lib.hid hoc1
    have HOCS : Hid (oc1.stage = s) := by show _ = _; rw [hocs, HSE.out]
    have HOCP : Hid (oc1.prog.length = m) := by show _ = _; rw [hocp, hm]
    obtain ⟨D', hD'⟩ : ∃ D', σ.dev.exec1 o.th q = D' := ⟨_, rfl⟩
    rw [hD'] at HQ HEX HER
    obtain ⟨q1, q2, q3⟩ := q
    dsimp only at t1 t2 t3 HEX
    clear CA CC SP fa fc hocp hm hoc1 hocs hD'
    refine wp_region_bx_tail 14 (by kernel_rfl) (by kernel_rfl) ?_
    simp only [List.take_succ_cons, List.take_zero, List.drop_succ_cons, List.drop_zero]
    repeat (go_big_quiet_step (fail))
    refine wpQuiet_nil ?_
    rintro _ ⟨y, rfl⟩
    have HEXY := Lib.hid (HEX.out y.w (HP1.out.bl0 y.below))
    clear HEX HEXE c1 c15 c8 t1 t2 t3 hgl HLa HLc hpa hpc
    go_wp2_with (first | (go_at_call 108; refine HEXY.out.mono ?_; rintro e w2 ⟨rfl, hX, hC⟩; have HP2 := Lib.hid hX; have HC2 : Hid (Ch (fun b => ¬ K b) w w2) := (HC1.out.trans (Ch.of_below (S := fun b => ¬ K b) y.below) (fun _ hb _ => hb)).trans hC (fun _ hb _ => hb); clear hX hC; obtain ⟨HLa, hpa, fa, _, _, _, _, _, _, _, _, CA, _⟩ := HP2.out.opc (a := a) (o := o.pos c s j) (if_pos rfl); have c1 : w2.cell? ⟨a, 1, none⟩ = some (.pointer (some ⟨t o.th, 0, none⟩)) := CA.c1; have c15 : w2.cell? ⟨a, 15, none⟩ = some (.int .i64 j) := CA.c15; have f15 := fa 15; clear CA fa) | (go_at_call 62; refine (HP2.out.err o.th hoth).mono ?_; rintro e w' ⟨rfl, rfl⟩; rw [HER.out]))
    obtain ⟨w3, hw3⟩ : ∃ w3, w2.setCell ⟨a, 15, none⟩ (.int .i64 ((j : Int) + 1)) = w3 := ⟨_, rfl⟩
    have HNX := PMx.nextSet HP2.out (a := a) (o := o.pos c s j) (if_pos rfl) (j + 1)
    rw [show ((j + 1 : Nat) : Int) = (j : Int) + 1 by omega, hw3] at HNX
    have hs2 : ({ σ.setOp a (o.pos c s j) with dev := D' } : PwS).setOp a { o.pos c s j with next := j + 1 } = ({ σ with dev := D' } : PwS).setOp a (o.pos c s (j + 1)) := by
     refine PwS.ext' rfl rfl rfl (fun b => ?_)
     show (if b = a then _ else if b = a then _ else σ.ops b) = if b = a then _ else σ.ops b
     split <;> rfl
    have HP3 : Hid (PMx K p d t line lines size w3 (({ σ with dev := D' } : PwS).setOp a (o.pos c s (j + 1)))) := by rw [← hs2]; exact HNX.1
    have HC3 : Hid (Ch (fun b => ¬ K b) w w3) := HC2.out.trans HNX.2 (fun _ hb _ => hb)
    have hoc2 : (({ σ with dev := D' } : PwS).setOp a (o.pos c s (j + 1))).ops c = some (if c = a then o.pos c s (j + 1) else oc) := by
     show (if c = a then some (o.pos c s (j + 1)) else σ.ops c) = _
     split
     · rfl
     · exact HOC.out
    have hoc3 : (if c = a then o.pos c s (j + 1) else oc).prog = oc.prog ∧ (if c = a then o.pos c s (j + 1) else oc).stage = s ∧ (if c = a then o.pos c s (j + 1) else oc).es = oc.es ∧ (if c = a then o.pos c s (j + 1) else oc).k = oc.k ∧ OpOk cnt n M (if c = a then o.pos c s (j + 1) else oc) := by
     by_cases hca : c = a
     · have ho : oc = o := by have h1 := HOC.out; have h2 := HA.out; rw [hca, h2] at h1; injection h1 with h1; exact h1.symm
       have hk := HOK.out
       have hst := HSE.out
       rw [if_pos hca]
       rw [ho] at hk hst ⊢
       exact ⟨rfl, hst, rfl, rfl, hk.th, hk.k, hk.l1, hk.l6, hk.ent, hk.nd, hk.perm, hk.sl, hk.sr⟩
     · rw [if_neg hca]
       exact ⟨rfl, HSE.out, rfl, rfl, HOK.out⟩
    obtain ⟨oc2, ho2⟩ : ∃ oc2, (if c = a then o.pos c s (j + 1) else oc) = oc2 := ⟨_, rfl⟩
    rw [ho2] at hoc2 hoc3 HQ
    obtain ⟨x1, x2, x3, x4, x5⟩ := hoc3
    obtain ⟨HLa3, hpa3, _, _, _, _, _, _, _, _, _, CA3, _⟩ := HP3.out.opc (a := a) (o := o.pos c s (j + 1)) (if_pos rfl)
    obtain ⟨HLc3, hpc3, _, _, _, _, _, _, _, pa3, pc3, CC3, _⟩ := HP3.out.opc hoc2
    have d15 : w3.cell? ⟨a, 15, none⟩ = some (.int .i64 ((j : Int) + 1)) := by have h9 : w3.cell? ⟨a, 15, none⟩ = some (.int .i64 ((j + 1 : Nat) : Int)) := CA3.c15; exact h9
    have d8 : w3.cell? ⟨c, 8, none⟩ = some (.slice pa3 m pc3) := by have := CC3.c8; rwa [x1, HM.out] at this
    have d7 : w3.cell? ⟨c, 7, none⟩ = some (.int .i64 s) := by have := CC3.c7; rwa [x2] at this
    have HEN : Hid (∀ W, PMx K p d t line lines size W (({ σ with dev := D' } : PwS).setOp a (o.pos c s (j + 1))) → Tab W → Calls Tryz.prog 109 #[.pointer (some ⟨c, 0, none⟩), .int .i64 ((s + 1 : Nat) : Int)] W fun r w' => r = .returned (.tuple #[]) ∧ PMx K p d t line lines size w' ((({ σ with dev := D' } : PwS).setOp a (o.pos c s (j + 1))).enter sumI (atW line) c oc2 (s + 1)) ∧ Ch (fun b => ¬ K b) W w') := fun W HW hTW =>
     opEnter HW hK0 hTW hoc2 x5 hn (by rw [x4]; exact HLI.out) (by rw [x3]; exact HBD.out) (s + 1) (by have := HSNZ.out; omega)
    rw [show ((s + 1 : Nat) : Int) = (s : Int) + 1 by omega] at HEN
    rw [hw3]
    clear hw3 HNX hs2 hoc2 x1 x2 x3 x4 x5 CA3 CC3 ho2 c1 c15 f15 HLa hpa
    by_cases hlast : j + 1 = m
    · have hb1 : ((j : Int) + 1 == (m : Int)) = true := by rw [beq_iff_eq]; omega
      go_quiet (fail)
      go_wp2_with (go_at_call 109; refine (HEN.out _ (HP3.out.bl0 (by (repeat (first | with_reducible (first | exact Below.refl _ _ | refine bl_alloc ?_ _ | refine bl_drew ?_ | refine bl_drewN ?_ _ | refine bl_bx ?_ _ | exact BX.below _ | refine bl_set ?_ (by first | (exact Nat.le_refl _) | (simp; done) | (simp; omega)) _) | assumption)))) (HT.out.ch (HC3.out.trans (Ch.of_below (S := fun b => ¬ K b) (by (repeat (first | with_reducible (first | exact Below.refl _ _ | refine bl_alloc ?_ _ | refine bl_drew ?_ | refine bl_drewN ?_ _ | refine bl_bx ?_ _ | exact BX.below _ | refine bl_set ?_ (by first | (exact Nat.le_refl _) | (simp; done) | (simp; omega)) _) | assumption)))) (fun _ hb _ => hb)) (fun h0 => h0 hK0))).mono ?_; rintro e w5 ⟨rfl, hX, hC⟩; have HX5 := Lib.hid hX; have HC5 := Lib.hid hC; clear hX hC)
      go_end0
      have hq := HQ.out
      rw [if_pos hlast] at hq
      rw [hq]
      exact ⟨rfl, HX5.out, (HC3.out.trans (Ch.of_below (S := fun b => ¬ K b) (by (repeat (first | with_reducible (first | exact Below.refl _ _ | refine bl_alloc ?_ _ | refine bl_drew ?_ | refine bl_drewN ?_ _ | refine bl_bx ?_ _ | exact BX.below _ | refine bl_set ?_ (by first | (exact Nat.le_refl _) | (simp; done) | (simp; omega)) _) | assumption)))) (fun _ hb _ => hb)).trans HC5.out (fun _ hb _ => hb)⟩
    · have hb1 : ((j : Int) + 1 == (m : Int)) = false := by rw [beq_eq_false_iff_ne]; omega
      go_quiet (fail)
      go_wp2
      go_end0
      have hq := HQ.out
      rw [if_neg hlast] at hq
      rw [hq]
      exact ⟨rfl, HP3.out.bl0 (by (repeat (first | with_reducible (first | exact Below.refl _ _ | refine bl_alloc ?_ _ | refine bl_drew ?_ | refine bl_drewN ?_ _ | refine bl_bx ?_ _ | exact BX.below _ | refine bl_set ?_ (by first | (exact Nat.le_refl _) | (simp; done) | (simp; omega)) _) | assumption))), HC3.out.trans (Ch.of_below (S := fun b => ¬ K b) (by (repeat (first | with_reducible (first | exact Below.refl _ _ | refine bl_alloc ?_ _ | refine bl_drew ?_ | refine bl_drewN ?_ _ | refine bl_bx ?_ _ | exact BX.below _ | refine bl_set ?_ (by first | (exact Nat.le_refl _) | (simp; done) | (simp; omega)) _) | assumption)))) (fun _ hb _ => hb)⟩
   | some b =>
    by_cases hbc : b = c
    · have hcb : c = b := hbc.symm
      subst hcb
      by_cases hin : o.inn = s
      · have hjn : o.next = j := by rw [← HJE.out]; unfold OpS.jat; rw [if_pos ⟨htgt, by rw [hin, HSE.out]⟩]
        have HPO : Hid (o.pos c s j = o) := by
         show _ = _
         have h1 := OpS.pos_at o c s
         rw [if_pos ⟨htgt, hin⟩] at h1
         have h2 := HJE.out
         rw [HSE.out] at h2
         rw [← h2, ← h1]
        have HSO : Hid (σ.setOp a (o.pos c s j) = σ) := by
         show _ = _
         rw [HPO.out]
         refine PwS.ext' rfl rfl rfl (fun x => ?_)
         show (if x = a then some o else σ.ops x) = σ.ops x
         split
         · rename_i hx; rw [hx, HA.out]
         · rfl
        have hne : ((s : Int) != (s : Int)) = false := by simp
        rw [htgt] at c13
        rw [hin] at c14
        rw [hjn] at c15
        clear htgt htg hin hjn
        go_enter Tryz.func87, Tryz.ntmps87
        go_wp2
        go_quiet (fail)
        go_upto_region 4 with (fail)
        obtain ⟨W1, hW1⟩ : ∃ W1, w.drewN nq = W1 := ⟨_, rfl⟩
        have HP1 : Hid (PMx K p d t line lines size W1 (σ.setOp a (o.pos c s j))) := by rw [← hW1, HSO.out]; exact HP.out.bl0 (below_drewN (Below.refl _ _) nq)
        have HC1 : Hid (Ch (fun b => ¬ K b) w W1) := by rw [← hW1]; exact Ch.of_below (below_drewN (Below.refl _ _) nq)
        rw [hW1]
        clear hW1 HPO HSO hne hps hpn
        have HT1 : Hid (Tab W1) := HT.out.ch HC1.out (fun h0 => h0 hK0)
        clear c1 c7 c13 c14 c15 f13 f14 f15 HLa HLc hpa hpc
        obtain ⟨oc1, hoc1, hocp, hocs⟩ : ∃ oc1, (σ.setOp a (o.pos c s j)).ops c = some oc1 ∧ oc1.prog = oc.prog ∧ oc1.stage = oc.stage := by
         by_cases hca : c = a
         · have : oc = o := by have h1 := HOC.out; have h2 := HA.out; rw [hca, h2] at h1; injection h1 with h1; exact h1.symm
           exact ⟨o.pos c s j, if_pos hca, by rw [this]; rfl, by rw [this]; rfl⟩
         · exact ⟨oc, (if_neg hca).trans HOC.out, rfl, rfl⟩
        obtain ⟨HLa, hpa, fa, _, _, _, _, _, _, _, _, CA, _⟩ := HP1.out.opc (a := a) (o := o.pos c s j) (if_pos rfl)
        obtain ⟨HLc, hpc, fc, _, _, _, _, _, _, pa, pc, CC, SP⟩ := HP1.out.opc hoc1
        rw [hocp] at SP
        have c1 : W1.cell? ⟨a, 1, none⟩ = some (.pointer (some ⟨t o.th, 0, none⟩)) := CA.c1
        have c15 : W1.cell? ⟨a, 15, none⟩ = some (.int .i64 j) := CA.c15
        have c8 : W1.cell? ⟨c, 8, none⟩ = some (.slice pa oc.prog.length pc) := by have := CC.c8; rwa [hocp] at this
        obtain ⟨g, off, hA', hgl, t1, t2, t3⟩ := SP.ins hj
        rw [HQE.out] at t1 t2 t3
        subst hA'
        have HEX := Lib.hid (fun (W : World) (HW : PMx K p d t line lines size W (σ.setOp a (o.pos c s j))) => pwDev HW (fun F hD => HEXE.out W F hD))
        obtain ⟨m, hm⟩ : ∃ m, oc.prog.length = m := ⟨_, rfl⟩
        have HM := Lib.hid hm
        rw [hm] at c8 hj hj37 HQ
        have hjI : (j : Int) < (m : Int) := by omega
        have e1 : IntKind.i64.wrap ((j : Int) + 1) = (j : Int) + 1 := IntWalk.i64_in _ (by omega)
        have e2 : IntKind.i64.wrap ((s : Int) + 1) = (s : Int) + 1 := IntWalk.i64_in _ (by omega)
        have HER := Lib.hid (HON1.out.err o.th)
        have HOC1 := Lib.hid hoc1
        have HOCS : Hid (oc1.stage = s) := by show _ = _; rw [hocs, HSE.out]
        have HOCP : Hid (oc1.prog.length = m) := by show _ = _; rw [hocp, hm]
        obtain ⟨D', hD'⟩ : ∃ D', σ.dev.exec1 o.th q = D' := ⟨_, rfl⟩
        rw [hD'] at HQ HEX HER
        obtain ⟨q1, q2, q3⟩ := q
        dsimp only at t1 t2 t3 HEX
        clear CA CC SP fa fc hocp hm hoc1 hocs hD'
        refine wp_region_bx_tail 14 (by kernel_rfl) (by kernel_rfl) ?_
        simp only [List.take_succ_cons, List.take_zero, List.drop_succ_cons, List.drop_zero]
        repeat (go_big_quiet_step (fail))
        refine wpQuiet_nil ?_
        rintro _ ⟨y, rfl⟩
        have HEXY := Lib.hid (HEX.out y.w (HP1.out.bl0 y.below))
        clear HEX HEXE c1 c15 c8 t1 t2 t3 hgl HLa HLc hpa hpc
        go_wp2_with (first | (go_at_call 108; refine HEXY.out.mono ?_; rintro e w2 ⟨rfl, hX, hC⟩; have HP2 := Lib.hid hX; have HC2 : Hid (Ch (fun b => ¬ K b) w w2) := (HC1.out.trans (Ch.of_below (S := fun b => ¬ K b) y.below) (fun _ hb _ => hb)).trans hC (fun _ hb _ => hb); clear hX hC; obtain ⟨HLa, hpa, fa, _, _, _, _, _, _, _, _, CA, _⟩ := HP2.out.opc (a := a) (o := o.pos c s j) (if_pos rfl); have c1 : w2.cell? ⟨a, 1, none⟩ = some (.pointer (some ⟨t o.th, 0, none⟩)) := CA.c1; have c15 : w2.cell? ⟨a, 15, none⟩ = some (.int .i64 j) := CA.c15; have f15 := fa 15; clear CA fa) | (go_at_call 62; refine (HP2.out.err o.th hoth).mono ?_; rintro e w' ⟨rfl, rfl⟩; rw [HER.out]))
        obtain ⟨w3, hw3⟩ : ∃ w3, w2.setCell ⟨a, 15, none⟩ (.int .i64 ((j : Int) + 1)) = w3 := ⟨_, rfl⟩
        have HNX := PMx.nextSet HP2.out (a := a) (o := o.pos c s j) (if_pos rfl) (j + 1)
        rw [show ((j + 1 : Nat) : Int) = (j : Int) + 1 by omega, hw3] at HNX
        have hs2 : ({ σ.setOp a (o.pos c s j) with dev := D' } : PwS).setOp a { o.pos c s j with next := j + 1 } = ({ σ with dev := D' } : PwS).setOp a (o.pos c s (j + 1)) := by
         refine PwS.ext' rfl rfl rfl (fun b => ?_)
         show (if b = a then _ else if b = a then _ else σ.ops b) = if b = a then _ else σ.ops b
         split <;> rfl
        have HP3 : Hid (PMx K p d t line lines size w3 (({ σ with dev := D' } : PwS).setOp a (o.pos c s (j + 1)))) := by rw [← hs2]; exact HNX.1
        have HC3 : Hid (Ch (fun b => ¬ K b) w w3) := HC2.out.trans HNX.2 (fun _ hb _ => hb)
        have hoc2 : (({ σ with dev := D' } : PwS).setOp a (o.pos c s (j + 1))).ops c = some (if c = a then o.pos c s (j + 1) else oc) := by
         show (if c = a then some (o.pos c s (j + 1)) else σ.ops c) = _
         split
         · rfl
         · exact HOC.out
        have hoc3 : (if c = a then o.pos c s (j + 1) else oc).prog = oc.prog ∧ (if c = a then o.pos c s (j + 1) else oc).stage = s ∧ (if c = a then o.pos c s (j + 1) else oc).es = oc.es ∧ (if c = a then o.pos c s (j + 1) else oc).k = oc.k ∧ OpOk cnt n M (if c = a then o.pos c s (j + 1) else oc) := by
         by_cases hca : c = a
         · have ho : oc = o := by have h1 := HOC.out; have h2 := HA.out; rw [hca, h2] at h1; injection h1 with h1; exact h1.symm
           have hk := HOK.out
           have hst := HSE.out
           rw [if_pos hca]
           rw [ho] at hk hst ⊢
           exact ⟨rfl, hst, rfl, rfl, hk.th, hk.k, hk.l1, hk.l6, hk.ent, hk.nd, hk.perm, hk.sl, hk.sr⟩
         · rw [if_neg hca]
           exact ⟨rfl, HSE.out, rfl, rfl, HOK.out⟩
        obtain ⟨oc2, ho2⟩ : ∃ oc2, (if c = a then o.pos c s (j + 1) else oc) = oc2 := ⟨_, rfl⟩
        rw [ho2] at hoc2 hoc3 HQ
        obtain ⟨x1, x2, x3, x4, x5⟩ := hoc3
        obtain ⟨HLa3, hpa3, _, _, _, _, _, _, _, _, _, CA3, _⟩ := HP3.out.opc (a := a) (o := o.pos c s (j + 1)) (if_pos rfl)
        obtain ⟨HLc3, hpc3, _, _, _, _, _, _, _, pa3, pc3, CC3, _⟩ := HP3.out.opc hoc2
        have d15 : w3.cell? ⟨a, 15, none⟩ = some (.int .i64 ((j : Int) + 1)) := by have h9 : w3.cell? ⟨a, 15, none⟩ = some (.int .i64 ((j + 1 : Nat) : Int)) := CA3.c15; exact h9
        have d8 : w3.cell? ⟨c, 8, none⟩ = some (.slice pa3 m pc3) := by have := CC3.c8; rwa [x1, HM.out] at this
        have d7 : w3.cell? ⟨c, 7, none⟩ = some (.int .i64 s) := by have := CC3.c7; rwa [x2] at this
        have HEN : Hid (∀ W, PMx K p d t line lines size W (({ σ with dev := D' } : PwS).setOp a (o.pos c s (j + 1))) → Tab W → Calls Tryz.prog 109 #[.pointer (some ⟨c, 0, none⟩), .int .i64 ((s + 1 : Nat) : Int)] W fun r w' => r = .returned (.tuple #[]) ∧ PMx K p d t line lines size w' ((({ σ with dev := D' } : PwS).setOp a (o.pos c s (j + 1))).enter sumI (atW line) c oc2 (s + 1)) ∧ Ch (fun b => ¬ K b) W w') := fun W HW hTW =>
         opEnter HW hK0 hTW hoc2 x5 hn (by rw [x4]; exact HLI.out) (by rw [x3]; exact HBD.out) (s + 1) (by have := HSNZ.out; omega)
        rw [show ((s + 1 : Nat) : Int) = (s : Int) + 1 by omega] at HEN
        rw [hw3]
        clear hw3 HNX hs2 hoc2 x1 x2 x3 x4 x5 CA3 CC3 ho2 c1 c15 f15 HLa hpa
        by_cases hlast : j + 1 = m
        · have hb1 : ((j : Int) + 1 == (m : Int)) = true := by rw [beq_iff_eq]; omega
          go_quiet (fail)
          go_wp2_with (go_at_call 109; refine (HEN.out _ (HP3.out.bl0 (by (repeat (first | with_reducible (first | exact Below.refl _ _ | refine bl_alloc ?_ _ | refine bl_drew ?_ | refine bl_drewN ?_ _ | refine bl_bx ?_ _ | exact BX.below _ | refine bl_set ?_ (by first | (exact Nat.le_refl _) | (simp; done) | (simp; omega)) _) | assumption)))) (HT.out.ch (HC3.out.trans (Ch.of_below (S := fun b => ¬ K b) (by (repeat (first | with_reducible (first | exact Below.refl _ _ | refine bl_alloc ?_ _ | refine bl_drew ?_ | refine bl_drewN ?_ _ | refine bl_bx ?_ _ | exact BX.below _ | refine bl_set ?_ (by first | (exact Nat.le_refl _) | (simp; done) | (simp; omega)) _) | assumption)))) (fun _ hb _ => hb)) (fun h0 => h0 hK0))).mono ?_; rintro e w5 ⟨rfl, hX, hC⟩; have HX5 := Lib.hid hX; have HC5 := Lib.hid hC; clear hX hC)
          go_end0
          have hq := HQ.out
          rw [if_pos hlast] at hq
          rw [hq]
          exact ⟨rfl, HX5.out, (HC3.out.trans (Ch.of_below (S := fun b => ¬ K b) (by (repeat (first | with_reducible (first | exact Below.refl _ _ | refine bl_alloc ?_ _ | refine bl_drew ?_ | refine bl_drewN ?_ _ | refine bl_bx ?_ _ | exact BX.below _ | refine bl_set ?_ (by first | (exact Nat.le_refl _) | (simp; done) | (simp; omega)) _) | assumption)))) (fun _ hb _ => hb)).trans HC5.out (fun _ hb _ => hb)⟩
        · have hb1 : ((j : Int) + 1 == (m : Int)) = false := by rw [beq_eq_false_iff_ne]; omega
          go_quiet (fail)
          go_wp2
          go_end0
          have hq := HQ.out
          rw [if_neg hlast] at hq
          rw [hq]
          exact ⟨rfl, HP3.out.bl0 (by (repeat (first | with_reducible (first | exact Below.refl _ _ | refine bl_alloc ?_ _ | refine bl_drew ?_ | refine bl_drewN ?_ _ | refine bl_bx ?_ _ | exact BX.below _ | refine bl_set ?_ (by first | (exact Nat.le_refl _) | (simp; done) | (simp; omega)) _) | assumption))), HC3.out.trans (Ch.of_below (S := fun b => ¬ K b) (by (repeat (first | with_reducible (first | exact Below.refl _ _ | refine bl_alloc ?_ _ | refine bl_drew ?_ | refine bl_drewN ?_ _ | refine bl_bx ?_ _ | exact BX.below _ | refine bl_set ?_ (by first | (exact Nat.le_refl _) | (simp; done) | (simp; omega)) _) | assumption)))) (fun _ hb _ => hb)⟩
      · have HJ0 : Hid (j = 0) := by show _ = _; rw [← HJE.out]; unfold OpS.jat; rw [if_neg (by rw [HSE.out]; exact fun hh => hin hh.2)]
        have hne : ((o.inn : Int) != (s : Int)) = true := by rw [bne_iff_ne]; omega
        rw [htgt] at c13
        clear htgt htg
        go_enter Tryz.func87, Tryz.ntmps87
        go_wp2
        go_quiet (fail)
        go_upto_region 4 with (fail)
        obtain ⟨W1, hW1⟩ : ∃ W1, ((((w.drewN nq).setCell ⟨a, 13, none⟩ (.pointer (some ⟨c, 0, none⟩))).setCell ⟨a, 14, none⟩ (.int .i64 s)).setCell ⟨a, 15, none⟩ (.int .i64 0)) = W1 := ⟨_, rfl⟩
        have HPC := PMx.posSet (HP.out.bl0 (below_drewN (Below.refl _ _) nq)) HA.out c s 0
        have HP1 : Hid (PMx K p d t line lines size W1 (σ.setOp a (o.pos c s j))) := by rw [← hW1, HJ0.out]; exact HPC.1
        have HC1 : Hid (Ch (fun b => ¬ K b) w W1) := by rw [← hW1]; exact (Ch.of_below (S := fun b => ¬ K b) (below_drewN (Below.refl _ _) nq)).trans HPC.2 (fun _ hb _ => hb)
        rw [hW1]
        clear hW1 HPC
        clear hne hps hpn
        have HT1 : Hid (Tab W1) := HT.out.ch HC1.out (fun h0 => h0 hK0)
        clear c1 c7 c13 c14 c15 f13 f14 f15 HLa HLc hpa hpc
        obtain ⟨oc1, hoc1, hocp, hocs⟩ : ∃ oc1, (σ.setOp a (o.pos c s j)).ops c = some oc1 ∧ oc1.prog = oc.prog ∧ oc1.stage = oc.stage := by
         by_cases hca : c = a
         · have : oc = o := by have h1 := HOC.out; have h2 := HA.out; rw [hca, h2] at h1; injection h1 with h1; exact h1.symm
           exact ⟨o.pos c s j, if_pos hca, by rw [this]; rfl, by rw [this]; rfl⟩
         · exact ⟨oc, (if_neg hca).trans HOC.out, rfl, rfl⟩
        obtain ⟨HLa, hpa, fa, _, _, _, _, _, _, _, _, CA, _⟩ := HP1.out.opc (a := a) (o := o.pos c s j) (if_pos rfl)
        obtain ⟨HLc, hpc, fc, _, _, _, _, _, _, pa, pc, CC, SP⟩ := HP1.out.opc hoc1
        rw [hocp] at SP
        have c1 : W1.cell? ⟨a, 1, none⟩ = some (.pointer (some ⟨t o.th, 0, none⟩)) := CA.c1
        have c15 : W1.cell? ⟨a, 15, none⟩ = some (.int .i64 j) := CA.c15
        have c8 : W1.cell? ⟨c, 8, none⟩ = some (.slice pa oc.prog.length pc) := by have := CC.c8; rwa [hocp] at this
        obtain ⟨g, off, hA', hgl, t1, t2, t3⟩ := SP.ins hj
        rw [HQE.out] at t1 t2 t3
        subst hA'
        have HEX := Lib.hid (fun (W : World) (HW : PMx K p d t line lines size W (σ.setOp a (o.pos c s j))) => pwDev HW (fun F hD => HEXE.out W F hD))
        obtain ⟨m, hm⟩ : ∃ m, oc.prog.length = m := ⟨_, rfl⟩
        have HM := Lib.hid hm
        rw [hm] at c8 hj hj37 HQ
        have hjI : (j : Int) < (m : Int) := by omega
        have e1 : IntKind.i64.wrap ((j : Int) + 1) = (j : Int) + 1 := IntWalk.i64_in _ (by omega)
        have e2 : IntKind.i64.wrap ((s : Int) + 1) = (s : Int) + 1 := IntWalk.i64_in _ (by omega)
        have HER := Lib.hid (HON1.out.err o.th)
        have HOC1 := Lib.hid hoc1
        have HOCS : Hid (oc1.stage = s) := by show _ = _; rw [hocs, HSE.out]
        have HOCP : Hid (oc1.prog.length = m) := by show _ = _; rw [hocp, hm]
        obtain ⟨D', hD'⟩ : ∃ D', σ.dev.exec1 o.th q = D' := ⟨_, rfl⟩
        rw [hD'] at HQ HEX HER
        obtain ⟨q1, q2, q3⟩ := q
        dsimp only at t1 t2 t3 HEX
        clear CA CC SP fa fc hocp hm hoc1 hocs hD'
        refine wp_region_bx_tail 14 (by kernel_rfl) (by kernel_rfl) ?_
        simp only [List.take_succ_cons, List.take_zero, List.drop_succ_cons, List.drop_zero]
        repeat (go_big_quiet_step (fail))
        refine wpQuiet_nil ?_
        rintro _ ⟨y, rfl⟩
        have HEXY := Lib.hid (HEX.out y.w (HP1.out.bl0 y.below))
        clear HEX HEXE c1 c15 c8 t1 t2 t3 hgl HLa HLc hpa hpc
        go_wp2_with (first | (go_at_call 108; refine HEXY.out.mono ?_; rintro e w2 ⟨rfl, hX, hC⟩; have HP2 := Lib.hid hX; have HC2 : Hid (Ch (fun b => ¬ K b) w w2) := (HC1.out.trans (Ch.of_below (S := fun b => ¬ K b) y.below) (fun _ hb _ => hb)).trans hC (fun _ hb _ => hb); clear hX hC; obtain ⟨HLa, hpa, fa, _, _, _, _, _, _, _, _, CA, _⟩ := HP2.out.opc (a := a) (o := o.pos c s j) (if_pos rfl); have c1 : w2.cell? ⟨a, 1, none⟩ = some (.pointer (some ⟨t o.th, 0, none⟩)) := CA.c1; have c15 : w2.cell? ⟨a, 15, none⟩ = some (.int .i64 j) := CA.c15; have f15 := fa 15; clear CA fa) | (go_at_call 62; refine (HP2.out.err o.th hoth).mono ?_; rintro e w' ⟨rfl, rfl⟩; rw [HER.out]))
        obtain ⟨w3, hw3⟩ : ∃ w3, w2.setCell ⟨a, 15, none⟩ (.int .i64 ((j : Int) + 1)) = w3 := ⟨_, rfl⟩
        have HNX := PMx.nextSet HP2.out (a := a) (o := o.pos c s j) (if_pos rfl) (j + 1)
        rw [show ((j + 1 : Nat) : Int) = (j : Int) + 1 by omega, hw3] at HNX
        have hs2 : ({ σ.setOp a (o.pos c s j) with dev := D' } : PwS).setOp a { o.pos c s j with next := j + 1 } = ({ σ with dev := D' } : PwS).setOp a (o.pos c s (j + 1)) := by
         refine PwS.ext' rfl rfl rfl (fun b => ?_)
         show (if b = a then _ else if b = a then _ else σ.ops b) = if b = a then _ else σ.ops b
         split <;> rfl
        have HP3 : Hid (PMx K p d t line lines size w3 (({ σ with dev := D' } : PwS).setOp a (o.pos c s (j + 1)))) := by rw [← hs2]; exact HNX.1
        have HC3 : Hid (Ch (fun b => ¬ K b) w w3) := HC2.out.trans HNX.2 (fun _ hb _ => hb)
        have hoc2 : (({ σ with dev := D' } : PwS).setOp a (o.pos c s (j + 1))).ops c = some (if c = a then o.pos c s (j + 1) else oc) := by
         show (if c = a then some (o.pos c s (j + 1)) else σ.ops c) = _
         split
         · rfl
         · exact HOC.out
        have hoc3 : (if c = a then o.pos c s (j + 1) else oc).prog = oc.prog ∧ (if c = a then o.pos c s (j + 1) else oc).stage = s ∧ (if c = a then o.pos c s (j + 1) else oc).es = oc.es ∧ (if c = a then o.pos c s (j + 1) else oc).k = oc.k ∧ OpOk cnt n M (if c = a then o.pos c s (j + 1) else oc) := by
         by_cases hca : c = a
         · have ho : oc = o := by have h1 := HOC.out; have h2 := HA.out; rw [hca, h2] at h1; injection h1 with h1; exact h1.symm
           have hk := HOK.out
           have hst := HSE.out
           rw [if_pos hca]
           rw [ho] at hk hst ⊢
           exact ⟨rfl, hst, rfl, rfl, hk.th, hk.k, hk.l1, hk.l6, hk.ent, hk.nd, hk.perm, hk.sl, hk.sr⟩
         · rw [if_neg hca]
           exact ⟨rfl, HSE.out, rfl, rfl, HOK.out⟩
        obtain ⟨oc2, ho2⟩ : ∃ oc2, (if c = a then o.pos c s (j + 1) else oc) = oc2 := ⟨_, rfl⟩
        rw [ho2] at hoc2 hoc3 HQ
        obtain ⟨x1, x2, x3, x4, x5⟩ := hoc3
        obtain ⟨HLa3, hpa3, _, _, _, _, _, _, _, _, _, CA3, _⟩ := HP3.out.opc (a := a) (o := o.pos c s (j + 1)) (if_pos rfl)
        obtain ⟨HLc3, hpc3, _, _, _, _, _, _, _, pa3, pc3, CC3, _⟩ := HP3.out.opc hoc2
        have d15 : w3.cell? ⟨a, 15, none⟩ = some (.int .i64 ((j : Int) + 1)) := by have h9 : w3.cell? ⟨a, 15, none⟩ = some (.int .i64 ((j + 1 : Nat) : Int)) := CA3.c15; exact h9
        have d8 : w3.cell? ⟨c, 8, none⟩ = some (.slice pa3 m pc3) := by have := CC3.c8; rwa [x1, HM.out] at this
        have d7 : w3.cell? ⟨c, 7, none⟩ = some (.int .i64 s) := by have := CC3.c7; rwa [x2] at this
        have HEN : Hid (∀ W, PMx K p d t line lines size W (({ σ with dev := D' } : PwS).setOp a (o.pos c s (j + 1))) → Tab W → Calls Tryz.prog 109 #[.pointer (some ⟨c, 0, none⟩), .int .i64 ((s + 1 : Nat) : Int)] W fun r w' => r = .returned (.tuple #[]) ∧ PMx K p d t line lines size w' ((({ σ with dev := D' } : PwS).setOp a (o.pos c s (j + 1))).enter sumI (atW line) c oc2 (s + 1)) ∧ Ch (fun b => ¬ K b) W w') := fun W HW hTW =>
         opEnter HW hK0 hTW hoc2 x5 hn (by rw [x4]; exact HLI.out) (by rw [x3]; exact HBD.out) (s + 1) (by have := HSNZ.out; omega)
        rw [show ((s + 1 : Nat) : Int) = (s : Int) + 1 by omega] at HEN
        rw [hw3]
        clear hw3 HNX hs2 hoc2 x1 x2 x3 x4 x5 CA3 CC3 ho2 c1 c15 f15 HLa hpa
        by_cases hlast : j + 1 = m
        · have hb1 : ((j : Int) + 1 == (m : Int)) = true := by rw [beq_iff_eq]; omega
          go_quiet (fail)
          go_wp2_with (go_at_call 109; refine (HEN.out _ (HP3.out.bl0 (by (repeat (first | with_reducible (first | exact Below.refl _ _ | refine bl_alloc ?_ _ | refine bl_drew ?_ | refine bl_drewN ?_ _ | refine bl_bx ?_ _ | exact BX.below _ | refine bl_set ?_ (by first | (exact Nat.le_refl _) | (simp; done) | (simp; omega)) _) | assumption)))) (HT.out.ch (HC3.out.trans (Ch.of_below (S := fun b => ¬ K b) (by (repeat (first | with_reducible (first | exact Below.refl _ _ | refine bl_alloc ?_ _ | refine bl_drew ?_ | refine bl_drewN ?_ _ | refine bl_bx ?_ _ | exact BX.below _ | refine bl_set ?_ (by first | (exact Nat.le_refl _) | (simp; done) | (simp; omega)) _) | assumption)))) (fun _ hb _ => hb)) (fun h0 => h0 hK0))).mono ?_; rintro e w5 ⟨rfl, hX, hC⟩; have HX5 := Lib.hid hX; have HC5 := Lib.hid hC; clear hX hC)
          go_end0
          have hq := HQ.out
          rw [if_pos hlast] at hq
          rw [hq]
          exact ⟨rfl, HX5.out, (HC3.out.trans (Ch.of_below (S := fun b => ¬ K b) (by (repeat (first | with_reducible (first | exact Below.refl _ _ | refine bl_alloc ?_ _ | refine bl_drew ?_ | refine bl_drewN ?_ _ | refine bl_bx ?_ _ | exact BX.below _ | refine bl_set ?_ (by first | (exact Nat.le_refl _) | (simp; done) | (simp; omega)) _) | assumption)))) (fun _ hb _ => hb)).trans HC5.out (fun _ hb _ => hb)⟩
        · have hb1 : ((j : Int) + 1 == (m : Int)) = false := by rw [beq_eq_false_iff_ne]; omega
          go_quiet (fail)
          go_wp2
          go_end0
          have hq := HQ.out
          rw [if_neg hlast] at hq
          rw [hq]
          exact ⟨rfl, HP3.out.bl0 (by (repeat (first | with_reducible (first | exact Below.refl _ _ | refine bl_alloc ?_ _ | refine bl_drew ?_ | refine bl_drewN ?_ _ | refine bl_bx ?_ _ | exact BX.below _ | refine bl_set ?_ (by first | (exact Nat.le_refl _) | (simp; done) | (simp; omega)) _) | assumption))), HC3.out.trans (Ch.of_below (S := fun b => ¬ K b) (by (repeat (first | with_reducible (first | exact Below.refl _ _ | refine bl_alloc ?_ _ | refine bl_drew ?_ | refine bl_drewN ?_ _ | refine bl_bx ?_ _ | exact BX.below _ | refine bl_set ?_ (by first | (exact Nat.le_refl _) | (simp; done) | (simp; omega)) _) | assumption)))) (fun _ hb _ => hb)⟩
    · obtain ⟨ob, hob⟩ := htg b htgt
      obtain ⟨cs, hcs⟩ := HP.out.cbx hob
      obtain ⟨cc, hcc⟩ := HP.out.cbx HOC.out
      have hpo := fun (m : Nat) => neq_op_other hbc (hcs.drewN m) (hcc.drewN m)
      have HJ0 : Hid (j = 0) := by show _ = _; rw [← HJE.out]; unfold OpS.jat; rw [if_neg (by rw [htgt]; simp [hbc])]
      rw [htgt] at c13
      clear htgt htg hps hpn hcs hcc hob
      go_enter Tryz.func87, Tryz.ntmps87
      go_wp2
      go_quiet (fail)
      go_upto_region 4 with (fail)
      obtain ⟨W1, hW1⟩ : ∃ W1, ((((w.drewN nq).setCell ⟨a, 13, none⟩ (.pointer (some ⟨c, 0, none⟩))).setCell ⟨a, 14, none⟩ (.int .i64 s)).setCell ⟨a, 15, none⟩ (.int .i64 0)) = W1 := ⟨_, rfl⟩
      have HPC := PMx.posSet (HP.out.bl0 (below_drewN (Below.refl _ _) nq)) HA.out c s 0
      have HP1 : Hid (PMx K p d t line lines size W1 (σ.setOp a (o.pos c s j))) := by rw [← hW1, HJ0.out]; exact HPC.1
      have HC1 : Hid (Ch (fun b => ¬ K b) w W1) := by rw [← hW1]; exact (Ch.of_below (S := fun b => ¬ K b) (below_drewN (Below.refl _ _) nq)).trans HPC.2 (fun _ hb _ => hb)
      rw [hW1]
      clear hW1 HPC
      clear hpo
      have HT1 : Hid (Tab W1) := HT.out.ch HC1.out (fun h0 => h0 hK0)
      clear c1 c7 c13 c14 c15 f13 f14 f15 HLa HLc hpa hpc
      obtain ⟨oc1, hoc1, hocp, hocs⟩ : ∃ oc1, (σ.setOp a (o.pos c s j)).ops c = some oc1 ∧ oc1.prog = oc.prog ∧ oc1.stage = oc.stage := by
       by_cases hca : c = a
       · have : oc = o := by have h1 := HOC.out; have h2 := HA.out; rw [hca, h2] at h1; injection h1 with h1; exact h1.symm
         exact ⟨o.pos c s j, if_pos hca, by rw [this]; rfl, by rw [this]; rfl⟩
       · exact ⟨oc, (if_neg hca).trans HOC.out, rfl, rfl⟩
      obtain ⟨HLa, hpa, fa, _, _, _, _, _, _, _, _, CA, _⟩ := HP1.out.opc (a := a) (o := o.pos c s j) (if_pos rfl)
      obtain ⟨HLc, hpc, fc, _, _, _, _, _, _, pa, pc, CC, SP⟩ := HP1.out.opc hoc1
      rw [hocp] at SP
      have c1 : W1.cell? ⟨a, 1, none⟩ = some (.pointer (some ⟨t o.th, 0, none⟩)) := CA.c1
      have c15 : W1.cell? ⟨a, 15, none⟩ = some (.int .i64 j) := CA.c15
      have c8 : W1.cell? ⟨c, 8, none⟩ = some (.slice pa oc.prog.length pc) := by have := CC.c8; rwa [hocp] at this
      obtain ⟨g, off, hA', hgl, t1, t2, t3⟩ := SP.ins hj
      rw [HQE.out] at t1 t2 t3
      subst hA'
      have HEX := Lib.hid (fun (W : World) (HW : PMx K p d t line lines size W (σ.setOp a (o.pos c s j))) => pwDev HW (fun F hD => HEXE.out W F hD))
      obtain ⟨m, hm⟩ : ∃ m, oc.prog.length = m := ⟨_, rfl⟩
      have HM := Lib.hid hm
      rw [hm] at c8 hj hj37 HQ
      have hjI : (j : Int) < (m : Int) := by omega
      have e1 : IntKind.i64.wrap ((j : Int) + 1) = (j : Int) + 1 := IntWalk.i64_in _ (by omega)
      have e2 : IntKind.i64.wrap ((s : Int) + 1) = (s : Int) + 1 := IntWalk.i64_in _ (by omega)
      have HER := Lib.hid (HON1.out.err o.th)
      have HOC1 := Lib.hid hoc1
      have HOCS : Hid (oc1.stage = s) := by show _ = _; rw [hocs, HSE.out]
      have HOCP : Hid (oc1.prog.length = m) := by show _ = _; rw [hocp, hm]
      obtain ⟨D', hD'⟩ : ∃ D', σ.dev.exec1 o.th q = D' := ⟨_, rfl⟩
      rw [hD'] at HQ HEX HER
      obtain ⟨q1, q2, q3⟩ := q
      dsimp only at t1 t2 t3 HEX
      clear CA CC SP fa fc hocp hm hoc1 hocs hD'
      refine wp_region_bx_tail 14 (by kernel_rfl) (by kernel_rfl) ?_
      simp only [List.take_succ_cons, List.take_zero, List.drop_succ_cons, List.drop_zero]
      repeat (go_big_quiet_step (fail))
      refine wpQuiet_nil ?_
      rintro _ ⟨y, rfl⟩
      have HEXY := Lib.hid (HEX.out y.w (HP1.out.bl0 y.below))
      clear HEX HEXE c1 c15 c8 t1 t2 t3 hgl HLa HLc hpa hpc
      go_wp2_with (first | (go_at_call 108; refine HEXY.out.mono ?_; rintro e w2 ⟨rfl, hX, hC⟩; have HP2 := Lib.hid hX; have HC2 : Hid (Ch (fun b => ¬ K b) w w2) := (HC1.out.trans (Ch.of_below (S := fun b => ¬ K b) y.below) (fun _ hb _ => hb)).trans hC (fun _ hb _ => hb); clear hX hC; obtain ⟨HLa, hpa, fa, _, _, _, _, _, _, _, _, CA, _⟩ := HP2.out.opc (a := a) (o := o.pos c s j) (if_pos rfl); have c1 : w2.cell? ⟨a, 1, none⟩ = some (.pointer (some ⟨t o.th, 0, none⟩)) := CA.c1; have c15 : w2.cell? ⟨a, 15, none⟩ = some (.int .i64 j) := CA.c15; have f15 := fa 15; clear CA fa) | (go_at_call 62; refine (HP2.out.err o.th hoth).mono ?_; rintro e w' ⟨rfl, rfl⟩; rw [HER.out]))
      obtain ⟨w3, hw3⟩ : ∃ w3, w2.setCell ⟨a, 15, none⟩ (.int .i64 ((j : Int) + 1)) = w3 := ⟨_, rfl⟩
      have HNX := PMx.nextSet HP2.out (a := a) (o := o.pos c s j) (if_pos rfl) (j + 1)
      rw [show ((j + 1 : Nat) : Int) = (j : Int) + 1 by omega, hw3] at HNX
      have hs2 : ({ σ.setOp a (o.pos c s j) with dev := D' } : PwS).setOp a { o.pos c s j with next := j + 1 } = ({ σ with dev := D' } : PwS).setOp a (o.pos c s (j + 1)) := by
       refine PwS.ext' rfl rfl rfl (fun b => ?_)
       show (if b = a then _ else if b = a then _ else σ.ops b) = if b = a then _ else σ.ops b
       split <;> rfl
      have HP3 : Hid (PMx K p d t line lines size w3 (({ σ with dev := D' } : PwS).setOp a (o.pos c s (j + 1)))) := by rw [← hs2]; exact HNX.1
      have HC3 : Hid (Ch (fun b => ¬ K b) w w3) := HC2.out.trans HNX.2 (fun _ hb _ => hb)
      have hoc2 : (({ σ with dev := D' } : PwS).setOp a (o.pos c s (j + 1))).ops c = some (if c = a then o.pos c s (j + 1) else oc) := by
       show (if c = a then some (o.pos c s (j + 1)) else σ.ops c) = _
       split
       · rfl
       · exact HOC.out
      have hoc3 : (if c = a then o.pos c s (j + 1) else oc).prog = oc.prog ∧ (if c = a then o.pos c s (j + 1) else oc).stage = s ∧ (if c = a then o.pos c s (j + 1) else oc).es = oc.es ∧ (if c = a then o.pos c s (j + 1) else oc).k = oc.k ∧ OpOk cnt n M (if c = a then o.pos c s (j + 1) else oc) := by
       by_cases hca : c = a
       · have ho : oc = o := by have h1 := HOC.out; have h2 := HA.out; rw [hca, h2] at h1; injection h1 with h1; exact h1.symm
         have hk := HOK.out
         have hst := HSE.out
         rw [if_pos hca]
         rw [ho] at hk hst ⊢
         exact ⟨rfl, hst, rfl, rfl, hk.th, hk.k, hk.l1, hk.l6, hk.ent, hk.nd, hk.perm, hk.sl, hk.sr⟩
       · rw [if_neg hca]
         exact ⟨rfl, HSE.out, rfl, rfl, HOK.out⟩
      obtain ⟨oc2, ho2⟩ : ∃ oc2, (if c = a then o.pos c s (j + 1) else oc) = oc2 := ⟨_, rfl⟩
      rw [ho2] at hoc2 hoc3 HQ
      obtain ⟨x1, x2, x3, x4, x5⟩ := hoc3
      obtain ⟨HLa3, hpa3, _, _, _, _, _, _, _, _, _, CA3, _⟩ := HP3.out.opc (a := a) (o := o.pos c s (j + 1)) (if_pos rfl)
      obtain ⟨HLc3, hpc3, _, _, _, _, _, _, _, pa3, pc3, CC3, _⟩ := HP3.out.opc hoc2
      have d15 : w3.cell? ⟨a, 15, none⟩ = some (.int .i64 ((j : Int) + 1)) := by have h9 : w3.cell? ⟨a, 15, none⟩ = some (.int .i64 ((j + 1 : Nat) : Int)) := CA3.c15; exact h9
      have d8 : w3.cell? ⟨c, 8, none⟩ = some (.slice pa3 m pc3) := by have := CC3.c8; rwa [x1, HM.out] at this
      have d7 : w3.cell? ⟨c, 7, none⟩ = some (.int .i64 s) := by have := CC3.c7; rwa [x2] at this
      have HEN : Hid (∀ W, PMx K p d t line lines size W (({ σ with dev := D' } : PwS).setOp a (o.pos c s (j + 1))) → Tab W → Calls Tryz.prog 109 #[.pointer (some ⟨c, 0, none⟩), .int .i64 ((s + 1 : Nat) : Int)] W fun r w' => r = .returned (.tuple #[]) ∧ PMx K p d t line lines size w' ((({ σ with dev := D' } : PwS).setOp a (o.pos c s (j + 1))).enter sumI (atW line) c oc2 (s + 1)) ∧ Ch (fun b => ¬ K b) W w') := fun W HW hTW =>
       opEnter HW hK0 hTW hoc2 x5 hn (by rw [x4]; exact HLI.out) (by rw [x3]; exact HBD.out) (s + 1) (by have := HSNZ.out; omega)
      rw [show ((s + 1 : Nat) : Int) = (s : Int) + 1 by omega] at HEN
      rw [hw3]
      clear hw3 HNX hs2 hoc2 x1 x2 x3 x4 x5 CA3 CC3 ho2 c1 c15 f15 HLa hpa
      by_cases hlast : j + 1 = m
      · have hb1 : ((j : Int) + 1 == (m : Int)) = true := by rw [beq_iff_eq]; omega
        go_quiet (fail)
        go_wp2_with (go_at_call 109; refine (HEN.out _ (HP3.out.bl0 (by (repeat (first | with_reducible (first | exact Below.refl _ _ | refine bl_alloc ?_ _ | refine bl_drew ?_ | refine bl_drewN ?_ _ | refine bl_bx ?_ _ | exact BX.below _ | refine bl_set ?_ (by first | (exact Nat.le_refl _) | (simp; done) | (simp; omega)) _) | assumption)))) (HT.out.ch (HC3.out.trans (Ch.of_below (S := fun b => ¬ K b) (by (repeat (first | with_reducible (first | exact Below.refl _ _ | refine bl_alloc ?_ _ | refine bl_drew ?_ | refine bl_drewN ?_ _ | refine bl_bx ?_ _ | exact BX.below _ | refine bl_set ?_ (by first | (exact Nat.le_refl _) | (simp; done) | (simp; omega)) _) | assumption)))) (fun _ hb _ => hb)) (fun h0 => h0 hK0))).mono ?_; rintro e w5 ⟨rfl, hX, hC⟩; have HX5 := Lib.hid hX; have HC5 := Lib.hid hC; clear hX hC)
        go_end0
        have hq := HQ.out
        rw [if_pos hlast] at hq
        rw [hq]
        exact ⟨rfl, HX5.out, (HC3.out.trans (Ch.of_below (S := fun b => ¬ K b) (by (repeat (first | with_reducible (first | exact Below.refl _ _ | refine bl_alloc ?_ _ | refine bl_drew ?_ | refine bl_drewN ?_ _ | refine bl_bx ?_ _ | exact BX.below _ | refine bl_set ?_ (by first | (exact Nat.le_refl _) | (simp; done) | (simp; omega)) _) | assumption)))) (fun _ hb _ => hb)).trans HC5.out (fun _ hb _ => hb)⟩
      · have hb1 : ((j : Int) + 1 == (m : Int)) = false := by rw [beq_eq_false_iff_ne]; omega
        go_quiet (fail)
        go_wp2
        go_end0
        have hq := HQ.out
        rw [if_neg hlast] at hq
        rw [hq]
        exact ⟨rfl, HP3.out.bl0 (by (repeat (first | with_reducible (first | exact Below.refl _ _ | refine bl_alloc ?_ _ | refine bl_drew ?_ | refine bl_drewN ?_ _ | refine bl_bx ?_ _ | exact BX.below _ | refine bl_set ?_ (by first | (exact Nat.le_refl _) | (simp; done) | (simp; omega)) _) | assumption))), HC3.out.trans (Ch.of_below (S := fun b => ¬ K b) (by (repeat (first | with_reducible (first | exact Below.refl _ _ | refine bl_alloc ?_ _ | refine bl_drew ?_ | refine bl_drewN ?_ _ | refine bl_bx ?_ _ | exact BX.below _ | refine bl_set ?_ (by first | (exact Nat.le_refl _) | (simp; done) | (simp; omega)) _) | assumption)))) (fun _ hb _ => hb)⟩
end
/-- What is needed of a pool beside Inv. -/
structure EnvOk (line n cnt : Nat) (σ : PwS) : Prop where
 n : n < 100000
 reg : line + 4 * cnt ≤ 100000
 busy : σ.busy.length = cnt
section
variable {K : Nat → Prop} {p d c a line lines : Nat} {t : Nat → Nat} {size : Int} {w w2 : World} {σ : PwS} {o oc : OpS} {cnt n N : Nat} {M : Nat → Prop} {xs : List Int} {L : Nat → Int} {ln : Int}
theorem PMx.pool (H : PMx K p d t line lines size w σ) : p < w.heap.size ∧ w.cell? ⟨p, 5, none⟩ = some (optP σ.cur) ∧ w.frozen? ⟨p, 5, none⟩ = false := by
 obtain ⟨role, bb, h, hK⟩ := H
 exact ⟨h.pl.lt, h.pl.cell 5, h.pl.frozen 5⟩
theorem advPre (hI : Inv sumI (atW line) n cnt M N σ xs L) (hR : RegOk n cnt M (atW line)) (ha : σ.ops a = some o) (hc : σ.cur = some c) (hoc : σ.ops c = some oc) :
 (oc.stage = 0 → oc.loaded < oc.order.length ∧ ∃ v, xs[wdE oc.es (oc.order.getD oc.loaded 0)]? = some v ∧ 0 ≤ v ∧ v < 4611686018427387904) ∧
 (oc.stage ≠ 0 → oc.stage ≤ 4 ∧ o.jat c oc.stage < oc.prog.length ∧ oc.prog.length ≤ 37 ∧ vIns n (oc.prog.getD (o.jat c oc.stage) (0, 0, 0))) := by
 obtain ⟨oc2, g1, g2, g3, g4⟩ := hI.run c hc
 rw [hoc] at g1
 injection g1 with g1
 subst g1
 have hok := hI.ok c oc hoc
 refine ⟨fun hs => ?_, fun hs => ?_⟩
 · rcases g4 with ⟨_, hl, hse, hM⟩ | ⟨e, _⟩ | ⟨e, _⟩ | ⟨e, _⟩
   · have hw := (hok.wd (hok.order_get hl)).1
     exact ⟨hl, _, hM _ hw, hI.hL _ hw⟩
   · omega
   · omega
   · omega
 · obtain ⟨h1, h4, hp⟩ := g4.info hs
   obtain ⟨hj, hj37⟩ := hI.jat_le hR hc hoc ha hs
   exact ⟨h4, hj, hj37, (insOk (sum := sumI) (xs := xs) hR hok hI.on.length h1 h4 hp hj).1⟩
theorem stepData {σ0 : PwS} (hI : Inv sumI (atW line) n cnt M N σ xs L) (hR : RegOk n cnt M (atW line)) (hN : N < 1000000) (ha : σ.ops a = some o) (he : o.ended = false) (hd : o.done = false) (hσ0 : σ0 = if σ.cur.isSome then σ else { σ with cur := some a }) (hc0 : σ0.cur = some c) (hI0 : Inv sumI (atW line) n cnt M N σ0 xs L) (hops : σ0.ops = σ.ops) (hbus : σ0.busy = σ.busy) (hoc : σ0.ops c = some oc) :
 ∃ τ o1 xs' L', σ0.adv sumI (atW line) a o c oc = τ ∧ Inv sumI (atW line) n cnt M (N + 1) τ xs' L' ∧ τ.ops a = some o1 ∧ o1.k = o.k ∧ o1.th = o.th ∧ τ.busy = σ.busy ∧ σ.step sumI (atW line) a = if o1.done then (τ.fend a o1 0, true) else (τ, false) := by
 have herr : ∀ i, (σ.dev.thr i).err = 0 := hI.on.err
 have ha0 : σ0.ops a = some o := by rw [hops]; exact ha
 obtain ⟨ys, L1, hI1, hE1⟩ := hI0.adv hR hN ha0 hc0 hoc
 have hF1 : SameFl σ (σ0.adv sumI (atW line) a o c oc) := by
  have h1 := adv_fl (sum := sumI) (at0 := atW line) ha0 hoc
  exact ⟨h1.1.trans hbus, fun b => (h1.2 b).trans (by rw [hops])⟩
 obtain ⟨o1, k1, k2, k3, k4⟩ := hE1.sm ha0
 obtain ⟨τ, hτ⟩ : ∃ τ, σ0.adv sumI (atW line) a o c oc = τ := ⟨_, rfl⟩
 rw [hτ] at hI1 hF1 k1
 refine ⟨τ, o1, ys, L1, hτ, hI1, k1, k4, k3, hF1.1, ?_⟩
 unfold PwS.step
 rw [ha]
 simp only [he, Bool.false_eq_true, if_false, hd, herr, ne_eq, not_true_eq_false]
 rw [← hσ0, hc0, Option.getD_some, hoc]
 simp only [hτ, k1]
 rw [if_neg (by rw [hI1.on.err]; simp)]
set_option maxRecDepth 100000 in
set_option maxHeartbeats 8000000 in
theorem opStep (H : PMx K p d t line lines size w σ) (hK0 : K 0) (hT : Tab w) (hI : Inv sumI (atW line) n cnt M N σ xs L) (hR : RegOk n cnt M (atW line)) (hN : N < 1000000) (hE : EnvOk line n cnt σ) (ha : σ.ops a = some o) :
 Calls Tryz.prog 64 #[.pointer (some ⟨a, 0, none⟩)] w fun r w' => r = .returned (.bool (σ.step sumI (atW line) a).2) ∧ PMx K p d t line lines size w' (σ.step sumI (atW line) a).1 ∧ Ch (fun b => ¬ K b) w w' := by
 have HP := Lib.hid H
 have herr : ∀ i, (σ.dev.thr i).err = 0 := hI.on.err
 have hoka := hI.ok a o ha
 have hoth := hoka.th
 have hkb : o.k < σ.busy.length := by rw [hE.busy]; exact hoka.k
 obtain ⟨HLa, hpa, fa, _, _, _, _, _, _, _, _, CA, _⟩ := H.opc ha
 obtain ⟨HLp, p5, f5⟩ := H.pool
 have c0 := CA.c0
 have c1 := CA.c1
 have c9 := CA.c9
 have c11 := CA.c11
 have HER := Lib.hid (H.err o.th hoth)
 rw [herr] at HER
 have hap : a ≠ p := hpa.symm
 have hcu : ∀ c, σ.cur = some c → ∃ oc, σ.ops c = some oc := fun c hc => by
  obtain ⟨oc, h1, _⟩ := hI.run c hc
  exact ⟨oc, h1⟩
 cases he : o.ended with
 | true =>
  have HQ : Hid (σ.step sumI (atW line) a = (σ, true)) := by show _ = _; unfold PwS.step; rw [ha]; simp [he]
  rw [he] at c11
  clear hI hR hE hoka hkb hcu CA fa herr
  rw [HQ.out]
  go_enter Tryz.func64, Tryz.ntmps64
  go_wp2
  go_ret
  exact ⟨rfl, HP.out, Ch.refl _ _⟩
 | false =>
  rw [he] at c11
  cases hd : o.done with
  | true =>
   have HQ : Hid (σ.step sumI (atW line) a = (σ.fend a o 0, true)) := by show _ = _; unfold PwS.step; rw [ha]; simp [he, hd, herr]
   have HEN := Lib.hid (opEnd H ha hcu hkb 0)
   rw [hd] at c9
   clear hI hR hE hoka hkb hcu CA fa herr hd he
   rw [HQ.out]
   go_enter Tryz.func64, Tryz.ntmps64
   go_wp2_with (first | (go_at_call 62; refine HER.out.mono ?_; rintro e w' ⟨rfl, rfl⟩) | (go_at_call 86; refine HEN.out.mono ?_; rintro e w5 ⟨rfl, hX, hC⟩; have HX5 := Lib.hid hX; have HC5 := Lib.hid hC; clear hX hC))
   go_ret
   exact ⟨rfl, HX5.out, HC5.out⟩
  | false =>
   rw [hd] at c9
   cases hcur : σ.cur with
   | none =>
    rw [hcur] at p5
    have hI0 := hI.claim hcur ha hd
    have hoc : ({ σ with cur := some a } : PwS).ops a = some o := ha
    have HPC := H.curSet (some a)
    have hT0 : Tab (w.setCell ⟨p, 5, none⟩ (optP (some a))) := hT.ch HPC.2 (fun h0 => h0 hK0)
    have p5' : optP (none : Option Nat) = .pointer none := rfl
    obtain ⟨τ, o1, ys, L1, hτ, hI1, k1, k4, k3, kb, hst⟩ := stepData hI hR hN ha he hd (show ({ σ with cur := some a } : PwS) = if σ.cur.isSome then σ else { σ with cur := some a } by rw [hcur]; rfl) rfl hI0 rfl rfl hoc
    obtain ⟨y0, y1⟩ := advPre hI0 hR (a := a) (o := o) ha rfl hoc
    have hok := hI.ok a o hoc
    have HADV := Lib.hid (opAdvance HPC.1 hK0 hT0 ha hoc hok hoka hI0.on hN hE.n (by have := hE.reg; have := hok.k; omega) (by have := hok.l6; omega) (fun b hb => by obtain ⟨ob, h1, _⟩ := hI.inn a o b ha hb; exact ⟨ob, h1⟩) y0 y1)
    rw [hτ] at HADV
    have HER1 : Hid (∀ W, PMx K p d t line lines size W τ → Calls Tryz.prog 62 #[.pointer (some ⟨t o.th, 0, none⟩)] W fun e w' => e = .returned (.int .i64 0) ∧ W = w') := fun W HW => by have := HW.err o.th hoth; rwa [hI1.on.err] at this
    have HEN := Lib.hid (fun (W : World) (HW : PMx K p d t line lines size W τ) => opEnd HW k1 (fun c hc => by obtain ⟨oc, h1, _⟩ := hI1.run c hc; exact ⟨oc, h1⟩) (by rw [k4, kb]; exact hkb) 0)
    have K1 := Lib.hid k1
    have HCL := Lib.hid HPC.2
    have K3 := Lib.hid k3
    cases hd1 : o1.done with
    | true =>
     have HQ : Hid (σ.step sumI (atW line) a = (τ.fend a o1 0, true)) := by show _ = _; rw [hst, hd1]; rfl
     have HD1 := Lib.hid hd1
     clear hI hR hE hoka hkb hcu CA fa herr hd he y0 y1 hok hst hI1 k1 k4 k3 kb hτ hd1 hI0 hoc hcur hT0 p5' HPC
     rw [HQ.out]
     go_enter Tryz.func64, Tryz.ntmps64
     go_wp2_with (first | (go_at_call 62; (first | (with_reducible refine HER.out.mono ?_) | (with_reducible refine (HER1.out _ HP2.out).mono ?_)); rintro e w' ⟨rfl, rfl⟩) | (go_at_call 87; refine HADV.out.mono ?_; rintro e w2 ⟨rfl, hX, hC⟩; have HP2 := Lib.hid hX; have HC2 := Lib.hid hC; clear hX hC; obtain ⟨HLa2, _, _, _, _, _, _, _, _, _, _, CA2, _⟩ := HP2.out.opc K1.out; have c1' : w2.cell? ⟨a, 1, none⟩ = some (.pointer (some ⟨t o.th, 0, none⟩)) := (K3.out ▸ CA2.c1); have c9' : w2.cell? ⟨a, 9, none⟩ = some (.bool true) := (HD1.out ▸ CA2.c9); clear CA2) | (go_at_call 86; refine (HEN.out _ HP2.out).mono ?_; rintro e w5 ⟨rfl, hX, hC⟩; have HX5 := Lib.hid hX; have HC5 := Lib.hid hC; clear hX hC))
     go_ret
     exact ⟨rfl, HX5.out, (HCL.out.trans HC2.out (fun _ hb _ => hb)).trans HC5.out (fun _ hb _ => hb)⟩
    | false =>
     have HQ : Hid (σ.step sumI (atW line) a = (τ, false)) := by show _ = _; rw [hst, hd1]; rfl
     have HD1 := Lib.hid hd1
     clear hI hR hE hoka hkb hcu CA fa herr hd he y0 y1 hok hst hI1 k1 k4 k3 kb hτ hd1 hI0 hoc hcur hT0 p5' HPC
     rw [HQ.out]
     go_enter Tryz.func64, Tryz.ntmps64
     go_wp2_with (first | (go_at_call 62; (first | (with_reducible refine HER.out.mono ?_) | (with_reducible refine (HER1.out _ HP2.out).mono ?_)); rintro e w' ⟨rfl, rfl⟩) | (go_at_call 87; refine HADV.out.mono ?_; rintro e w2 ⟨rfl, hX, hC⟩; have HP2 := Lib.hid hX; have HC2 := Lib.hid hC; clear hX hC; obtain ⟨HLa2, _, _, _, _, _, _, _, _, _, _, CA2, _⟩ := HP2.out.opc K1.out; have c1' : w2.cell? ⟨a, 1, none⟩ = some (.pointer (some ⟨t o.th, 0, none⟩)) := (K3.out ▸ CA2.c1); have c9' : w2.cell? ⟨a, 9, none⟩ = some (.bool false) := (HD1.out ▸ CA2.c9); clear CA2))
     go_ret
     exact ⟨rfl, HP2.out, HCL.out.trans HC2.out (fun _ hb _ => hb)⟩
   | some c =>
    rw [hcur] at p5
    obtain ⟨oc, hoc⟩ := hcu c hcur
    obtain ⟨τ, o1, ys, L1, hτ, hI1, k1, k4, k3, kb, hst⟩ := stepData hI hR hN ha he hd (show σ = if σ.cur.isSome then σ else { σ with cur := some a } by rw [hcur]; rfl) hcur hI rfl rfl hoc
    obtain ⟨y0, y1⟩ := advPre hI hR (a := a) (o := o) ha hcur hoc
    have hok := hI.ok _ oc hoc
    have HADV := Lib.hid (opAdvance H hK0 hT ha hoc hok hoka hI.on hN hE.n (by have := hE.reg; have := hok.k; omega) (by have := hok.l6; omega) (fun b hb => by obtain ⟨ob, h1, _⟩ := hI.inn a o b ha hb; exact ⟨ob, h1⟩) y0 y1)
    rw [hτ] at HADV
    have HER1 : Hid (∀ W, PMx K p d t line lines size W τ → Calls Tryz.prog 62 #[.pointer (some ⟨t o.th, 0, none⟩)] W fun e w' => e = .returned (.int .i64 0) ∧ W = w') := fun W HW => by have := HW.err o.th hoth; rwa [hI1.on.err] at this
    have HEN := Lib.hid (fun (W : World) (HW : PMx K p d t line lines size W τ) => opEnd HW k1 (fun c hc => by obtain ⟨oc, h1, _⟩ := hI1.run c hc; exact ⟨oc, h1⟩) (by rw [k4, kb]; exact hkb) 0)
    have K1 := Lib.hid k1
    have HCL := Lib.hid (Ch.refl (fun b => ¬ K b) w)
    have K3 := Lib.hid k3
    cases hd1 : o1.done with
    | true =>
     have HQ : Hid (σ.step sumI (atW line) a = (τ.fend a o1 0, true)) := by show _ = _; rw [hst, hd1]; rfl
     have HD1 := Lib.hid hd1
     clear hI hR hE hoka hkb hcu CA fa herr hd he y0 y1 hok hst hI1 k1 k4 k3 kb hτ hd1 hoc hcur
     rw [HQ.out]
     go_enter Tryz.func64, Tryz.ntmps64
     go_wp2_with (first | (go_at_call 62; (first | (with_reducible refine HER.out.mono ?_) | (with_reducible refine (HER1.out _ HP2.out).mono ?_)); rintro e w' ⟨rfl, rfl⟩) | (go_at_call 87; refine HADV.out.mono ?_; rintro e w2 ⟨rfl, hX, hC⟩; have HP2 := Lib.hid hX; have HC2 := Lib.hid hC; clear hX hC; obtain ⟨HLa2, _, _, _, _, _, _, _, _, _, _, CA2, _⟩ := HP2.out.opc K1.out; have c1' : w2.cell? ⟨a, 1, none⟩ = some (.pointer (some ⟨t o.th, 0, none⟩)) := (K3.out ▸ CA2.c1); have c9' : w2.cell? ⟨a, 9, none⟩ = some (.bool true) := (HD1.out ▸ CA2.c9); clear CA2) | (go_at_call 86; refine (HEN.out _ HP2.out).mono ?_; rintro e w5 ⟨rfl, hX, hC⟩; have HX5 := Lib.hid hX; have HC5 := Lib.hid hC; clear hX hC))
     go_ret
     exact ⟨rfl, HX5.out, (HCL.out.trans HC2.out (fun _ hb _ => hb)).trans HC5.out (fun _ hb _ => hb)⟩
    | false =>
     have HQ : Hid (σ.step sumI (atW line) a = (τ, false)) := by show _ = _; rw [hst, hd1]; rfl
     have HD1 := Lib.hid hd1
     clear hI hR hE hoka hkb hcu CA fa herr hd he y0 y1 hok hst hI1 k1 k4 k3 kb hτ hd1 hoc hcur
     rw [HQ.out]
     go_enter Tryz.func64, Tryz.ntmps64
     go_wp2_with (first | (go_at_call 62; (first | (with_reducible refine HER.out.mono ?_) | (with_reducible refine (HER1.out _ HP2.out).mono ?_)); rintro e w' ⟨rfl, rfl⟩) | (go_at_call 87; refine HADV.out.mono ?_; rintro e w2 ⟨rfl, hX, hC⟩; have HP2 := Lib.hid hX; have HC2 := Lib.hid hC; clear hX hC; obtain ⟨HLa2, _, _, _, _, _, _, _, _, _, _, CA2, _⟩ := HP2.out.opc K1.out; have c1' : w2.cell? ⟨a, 1, none⟩ = some (.pointer (some ⟨t o.th, 0, none⟩)) := (K3.out ▸ CA2.c1); have c9' : w2.cell? ⟨a, 9, none⟩ = some (.bool false) := (HD1.out ▸ CA2.c9); clear CA2))
     go_ret
     exact ⟨rfl, HP2.out, HCL.out.trans HC2.out (fun _ hb _ => hb)⟩
end
end Go.Proofs.YtaefkelaffijbaaGreatDoor
