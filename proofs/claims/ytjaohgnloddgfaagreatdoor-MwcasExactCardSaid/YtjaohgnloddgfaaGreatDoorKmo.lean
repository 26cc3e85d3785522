/- Begin and run of the law (merged). -/
import Derived.Test.YtjaohgnloddgfaaGreatDoorKmn
import Derived.Test.YtjaohgnloddgfaaGreatDoorKmj
namespace Go.Proofs.YtjaohgnloddgfaaGreatDoor
open Go.RowKit
set_option linter.unusedVariables false
set_option linter.unusedSimpArgs false

/-- A call that is prepared. -/
def maRd (k blk th : Nat) : MaS := ⟨.rd k, blk, ⟨th, 8 * (k : Int), 0, 0, false, 0⟩, 0, 0, false, false, false, false, 0⟩
def maOp (es : List Ent) (blk : Nat) : MaS := ⟨.op es, blk, ⟨0, 0, 0, 0, false, 0⟩, 0, 0, false, false, false, false, 0⟩
def BgPost (κ : Nat → Nat) (p d : Nat) (t : Nat → Nat) (w : World) (σ : PwS) (kf : Nat) (q : TdS) (e : Ending) (w' : World) : Prop :=
  ∃ g B cp z σ' m, e = .returned (.tuple #[.pointer (some ⟨g, 0, none⟩), .bool true]) ∧ w.heap.size ≤ g ∧ g < z ∧ w.heap.size ≤ z ∧ z ≤ w'.heap.size ∧ CB w' g 54 (mcs m q B cp) ∧ RsV w' B q.es.length cp q.es ∧ (∀ b, OwnB B b → w.heap.size ≤ b ∧ b < z ∧ b ≠ g) ∧
    PMx (fun b => κ b ≠ 0 ∨ (w.heap.size ≤ b ∧ b < z)) p d t 0 32 ((40 : Nat) * 64) w' σ' ∧ Ch (fun b => κ b = 0) w w' ∧
    ((q.es = [] ∧ σ' = σ ∧ ∃ blk th, th < 8 ∧ m = maRd (288 + q.word) blk th ∧ w.heap.size ≤ blk ∧ blk < z ∧ blk ≠ g ∧ (∀ b, OwnB B b → b ≠ blk) ∧ CB w' blk 130 (rdcells (.pointer (some ⟨p, 0, none⟩)) (.pointer (some ⟨t th, 0, none⟩)) m.rs)) ∨
     (q.es ≠ [] ∧ ∃ blk th order, th < 8 ∧ m = maOp (q.es.map entOf) blk ∧ w.heap.size ≤ blk ∧ order.Perm (List.range q.es.length) ∧ σ' = { σ.setOp blk (newOp kf th (q.es.map entOf) order) with busy := σ.busy.set kf true }))
theorem out17 (j : Nat) (hj : j < 8) : outB 0 32 40 (8 * ((288 + j : Nat) : Int)) = true := by
  unfold outB
  simp only [Bool.and_eq_true, Bool.or_eq_true, decide_eq_true_eq]
  omega
set_option maxRecDepth 100000 in
set_option maxHeartbeats 8000000 in
theorem mcBegin {κ : Nat → Nat} {p d kf : Nat} {t : Nat → Nat} {w : World} {σ : PwS} (H : PMx (fun b => κ b ≠ 0) p d t 0 32 ((40 : Nat) * 64) w σ) (herr : ∀ i, (σ.dev.thr i).err = 0) (hkf : idxB σ.busy = some kf) (hbl : σ.busy.length ≤ 100000)
    (th wd : Int) (hth : -9223372036854775808 ≤ th ∧ th < 9223372036854775808) (hwd : -9223372036854775808 ≤ wd ∧ wd < 9223372036854775808) (A : Option Addr) (n c : Nat) (l : List (Int × Int × Int)) (hS : RiV w A n c l) (hn : n < 9223372036854775808) (hW : RiW l) :
    Calls Tryz.prog 63 #[.pointer (some ⟨p, 0, none⟩), .agg #[.int .i64 th, .int .i64 wd, .slice A n c]] w (BgPost κ p d t w σ kf ⟨(wd % 8).toNat, tdEs l⟩) := by
  have HTO : Hid (∀ W, Below w.heap.size w W → Calls Tryz.prog 43 #[.agg #[.int .i64 th, .int .i64 wd, .slice A n c]] W (TdPost W ⟨(tdEs l).isEmpty, (wd % 8).toNat, tdEs l, 0, 0, false, false, 0⟩)) := fun W hB => told17 W th wd A n c l (hS.bl hB) hn hW hwd
  have hRI := tdEs_ok l
  have hwr : (wd % 8).toNat < 8 := by omega
  obtain ⟨tn, htn⟩ : ∃ tn : Nat, th % 8 = tn ∧ tn < 8 := ⟨(th % 8).toNat, by omega, by omega⟩
  have HMD : Hid (∀ W, Calls Tryz.prog 27 #[.int .i64 th, .int .i64 8] W fun r w' => r = .returned (.int .i64 (tn : Int)) ∧ W = w') := fun W => by rw [← htn.1]; exact mod17 W th hth 8 (by omega)
  have HTN := Lib.hid htn.2
  obtain ⟨es, hes⟩ : ∃ es, tdEs l = es := ⟨_, rfl⟩
  obtain ⟨wn, hwn⟩ : ∃ wn, (wd % 8).toNat = wn := ⟨_, rfl⟩
  rw [hes] at HTO hRI ⊢
  rw [hwn] at HTO hwr ⊢
  have HRI := Lib.hid hRI
  have HOFF := Lib.hid (fun W => off17 W wn hwr)
  have HOUT := Lib.hid (out17 wn hwr)
  have HP := Lib.hid H
  have HER := Lib.hid herr
  have HKF := Lib.hid hkf
  have HEM : Hid (es.isEmpty = true ↔ es = []) := List.isEmpty_iff
  clear H herr hkf hS hW hRI hes hwn htn hwd hth
  have HWR : Hid (wn < 8) := hwr
  obtain ⟨em, hem⟩ : ∃ em, es.isEmpty = em := ⟨_, rfl⟩
  have HEM2 := Lib.hid hem
  rw [hem] at HTO HEM
  clear hwr hem
  obtain ⟨of, hof⟩ : ∃ of, 8 * ((288 + wn : Nat) : Int) = of := ⟨_, rfl⟩
  have HOFR : Hid (0 ≤ of ∧ of < 18446744073709551616) := by show _ ∧ _; have := HWR.out; omega
  rw [hof] at HOFF HOUT
  have HOFE := Lib.hid hof
  clear hof
  have hg54 : 54 = 54 := rfl
  cases em with
  | true =>
    have he0 : es = [] := HEM.out.1 rfl
    subst he0
    go_enter Tryz.func63, Tryz.ntmps63
    go_upto_region 4 with (first
      | (go_at_call 43; refine (HTO.out _ (bl_alloc (Below.refl _ _) _)).mono ?_; rintro e w1 ⟨B, cp, rfl, hRs, hB1, hO1⟩; unfold rcV; dsimp only; have HRs := Lib.hid hRs; have HO1 := Lib.hid hO1; obtain ⟨x1, rfl⟩ := bx_of hB1; clear hRs hB1 hO1)
      | (go_at_call 27; refine (HMD.out _).mono ?_; rintro e w' ⟨rfl, rfl⟩))
    have HB1 : Hid (Below w.heap.size w (x1.w.alloc (.cells #[.pointer none, .pointer none, .bool true, .int .i64 wn, .slice B 0 cp, .int .i64 0, .int .i64 0, .bool false, .bool false, .int .u64 0, .bool false, .bool false] 54))) := bl_alloc (bl_bx (bl_alloc (Below.refl _ _) _) x1) _
    have HC1 := Lib.hid (CB.new x1.w 54 #[.pointer none, .pointer none, .bool true, .int .i64 wn, .slice B 0 cp, .int .i64 0, .int .i64 0, .bool false, .bool false, .int .u64 0, .bool false, .bool false])
    have HR1 : Hid (RsV (x1.w.alloc (.cells #[.pointer none, .pointer none, .bool true, .int .i64 wn, .slice B 0 cp, .int .i64 0, .int .i64 0, .bool false, .bool false, .int .u64 0, .bool false, .bool false] 54)) B 0 cp []) := RsV.bl HRs.out (bl_alloc (Below.refl _ _) _)
    have HSZ : Hid (w.heap.size ≤ x1.w.heap.size) := by show _ ≤ _; have := x1.size; simp at this; omega
    have HOB : Hid (∀ b, OwnB B b → w.heap.size ≤ b ∧ b < x1.w.heap.size) := fun b hb => by
      have h1 := HO1.out b hb
      simp at h1
      omega
    obtain ⟨g, hg⟩ : ∃ g, x1.w.heap.size = g := ⟨_, rfl⟩
    obtain ⟨W1, hW1⟩ : ∃ W1, x1.w.alloc (.cells #[.pointer none, .pointer none, .bool true, .int .i64 wn, .slice B 0 cp, .int .i64 0, .int .i64 0, .bool false, .bool false, .int .u64 0, .bool false, .bool false] 54) = W1 := ⟨_, rfl⟩
    rw [hW1] at HB1 HC1 HR1 ⊢
    rw [hg] at HC1 HSZ HOB
    simp only [hg]
    have HP1 := Lib.hid (HP.out.bl0 HB1.out)
    have y3 := HC1.out.cell 3
    have y1 := HC1.out.cell 1
    simp only [List.getElem?_toArray, List.getElem?_cons_succ, List.getElem?_cons_zero] at y1 y3
    have hgl := HC1.out.lt
    clear hg hW1
    go_upto_region 5 with (first
      | (go_at_call 26; refine (HOFF.out _).mono ?_; rintro e w' ⟨rfl, rfl⟩)
      | (go_at_call 18; refine (pwRead (n := 40) HP1.out (by omega) (by omega) tn HTN.out of HOFR.out HOUT.out).mono ?_; rintro e w2 ⟨gr, rfl, hC, hgr, hB2⟩; have HCR := Lib.hid hC; have HGR := Lib.hid hgr; have HG2 := Lib.hid (HC1.out.keep (hB2.block g hgl)); have z1 := HG2.out.cell 1; simp only [List.getElem?_toArray, List.getElem?_cons_succ, List.getElem?_cons_zero] at z1; have zf := HG2.out.frozen 1; have hgl2 := HG2.out.lt; obtain ⟨x2, rfl⟩ := bx_of hB2; clear hC hgr hB2))
    have HG3 := Lib.hid (HG2.out.set 1 (.pointer (some ⟨gr, 0, none⟩)))
    have k1 := HG3.out.cell 1
    simp only [List.setIfInBounds_toArray, List.set_cons_succ, List.set_cons_zero, List.getElem?_toArray, List.getElem?_cons_succ, List.getElem?_cons_zero] at k1
    have hgl3 := HG3.out.lt
    have HBX : Hid (Below w.heap.size w x2.w) := bl_bx HB1.out x2
    have hgrl := HCR.out.lt
    obtain ⟨W3, hW3⟩ : ∃ W3, x2.w.setCell ⟨g, 1, none⟩ (.pointer (some ⟨gr, 0, none⟩)) = W3 := ⟨_, rfl⟩
    have HW3 := Lib.hid hW3
    rw [hW3] at HG3 k1 hgl3 ⊢
    clear hW3 z1 zf y1 y3
    go_quiet (fail)
    go_wp2
    have hgb : g < x2.w.heap.size := hgl2
    have hne : gr ≠ g := by have := HGR.out; omega
    refine bodyPost_ret (v := .tuple #[.pointer (some ⟨g, 0, none⟩), .bool true]) (by simp [results, Tryz.results63, go_sem]) rfl ⟨g, B, cp, x2.w.heap.size, σ, maRd (288 + wn) gr tn, rfl, HSZ.out, hgb, HBX.out.size, ?_, ?_, ?_, fun b hb => ?_, ?_, ?_, .inl ⟨rfl, rfl, gr, tn, HTN.out, rfl, ?_, hgrl, hne, fun b hb => ?_, ?_⟩⟩
    · rw [← HW3.out]; simp
    · exact HG3.out
    · exact (HR1.out.bl x2.below).keep (by rw [← HW3.out]; simp) (fun b hb ho => by rw [← HW3.out]; exact Below.heap_setCell _ _ _ _ (by show b ≠ g; have := (HOB.out b ho).2; omega))
    · have h1 := HOB.out b hb
      omega
    · rw [← HW3.out]
      exact ((HP.out.bl HBX.out).chK (T := At g) ((Ch.refl _ _).set1 1 _) (fun b _ hb => .inr (by rw [show b = g from hb]; exact ⟨HSZ.out, hgb⟩))).bl0 (bl_drewN (Below.refl _ _) _)
    · rw [← HW3.out]
      exact Ch.of_below (bl_drewN (bl_set HBX.out (p := ⟨g, 1, none⟩) HSZ.out _) _)
    · have := HGR.out
      have := HB1.out.size
      omega
    · have h1 := (HOB.out b hb).2
      have h2 := HGR.out
      have h3 := hgl
      omega
    · rw [← HW3.out]
      show CB _ gr _ (rdcells _ _ ⟨tn, 8 * ((288 + wn : Nat) : Int), 0, 0, false, 0⟩)
      rw [HOFE.out]
      exact HCR.out.keep (Below.heap_setCell _ _ _ _ hne)
  | false =>
    have he0 : es ≠ [] := fun h => by have := HEM.out.2 h; cases this
    have h1e : 1 ≤ es.length := by cases es with
      | nil => exact absurd rfl he0
      | cons x l => simp
    obtain ⟨m, hm⟩ : ∃ m, es.length = m := ⟨_, rfl⟩
    have HM := Lib.hid hm
    rw [hm] at h1e
    have h6e : m ≤ 6 := by rw [← hm]; exact HRI.out.l
    have HE0 := Lib.hid he0
    have HEB : Hid (entsB 0 32 40 (es.map entOf) m = true) := by have := entsB17 HRI.out; rw [List.length_map, hm] at this; exact this
    have HER2 : Hid (∀ e ∈ es.map entOf, 0 ≤ e.off ∧ e.off < 18446744073709551616 ∧ 0 ≤ e.old ∧ e.old < 18446744073709551616) := fun e he => by
      obtain ⟨r, hr, rfl⟩ := List.mem_map.1 he
      have := HRI.out.w r hr
      unfold entOf
      dsimp only
      omega
    have HW8 : Hid (∀ e ∈ es, e.word < 8) := fun e he => (HRI.out.w e he).1
    clear he0 hm
    go_enter Tryz.func63, Tryz.ntmps63
    go_upto_region 7 with (first
      | (go_at_call 43; refine (HTO.out _ (bl_alloc (Below.refl _ _) _)).mono ?_; rintro e w1 ⟨B, cp, rfl, hRs, hB1, hO1⟩; unfold rcV; dsimp only; rw [HM.out]; have HRs := Lib.hid hRs; have HO1 := Lib.hid hO1; obtain ⟨x1, rfl⟩ := bx_of hB1; clear hRs hB1 hO1)
      | (go_at_call 27; refine (HMD.out _).mono ?_; rintro e w' ⟨rfl, rfl⟩))
    have HB1 : Hid (Below w.heap.size w (x1.w.alloc (.cells #[.pointer none, .pointer none, .bool false, .int .i64 wn, .slice B m cp, .int .i64 0, .int .i64 0, .bool false, .bool false, .int .u64 0, .bool false, .bool false] 54))) := bl_alloc (bl_bx (bl_alloc (Below.refl _ _) _) x1) _
    have HC1 := Lib.hid (CB.new x1.w 54 #[.pointer none, .pointer none, .bool false, .int .i64 wn, .slice B m cp, .int .i64 0, .int .i64 0, .bool false, .bool false, .int .u64 0, .bool false, .bool false])
    have HR1 : Hid (RsV (x1.w.alloc (.cells #[.pointer none, .pointer none, .bool false, .int .i64 wn, .slice B m cp, .int .i64 0, .int .i64 0, .bool false, .bool false, .int .u64 0, .bool false, .bool false] 54)) B m cp es) := by
      have := HRs.out
      rw [HM.out] at this
      exact RsV.bl this (bl_alloc (Below.refl _ _) _)
    have HSZ : Hid (w.heap.size ≤ x1.w.heap.size) := by show _ ≤ _; have := x1.size; simp at this; omega
    have HOB : Hid (∀ b, OwnB B b → w.heap.size ≤ b ∧ b < x1.w.heap.size) := fun b hb => by
      have h1 := HO1.out b hb
      simp at h1
      omega
    obtain ⟨g, hg⟩ : ∃ g, x1.w.heap.size = g := ⟨_, rfl⟩
    obtain ⟨W1, hW1⟩ : ∃ W1, x1.w.alloc (.cells #[.pointer none, .pointer none, .bool false, .int .i64 wn, .slice B m cp, .int .i64 0, .int .i64 0, .bool false, .bool false, .int .u64 0, .bool false, .bool false] 54) = W1 := ⟨_, rfl⟩
    rw [hW1] at HB1 HC1 HR1 ⊢
    rw [hg] at HC1 HSZ HOB
    simp only [hg]
    have y4 := HC1.out.cell 4
    simp only [List.getElem?_toArray, List.getElem?_cons_succ, List.getElem?_cons_zero] at y4
    have hgl := HC1.out.lt
    clear hg hW1
    have HOW : Hid (Calls Tryz.prog 48 #[.slice B m cp] W1 (OwnPost W1 es m)) := own17 W1 B m cp es HR1.out h6e HW8.out
    go_upto_region 8 with (first
      | (go_at_call 48; refine HOW.out.mono ?_; rintro e w2 ⟨A2, c2, rfl, hS2, hB2, hO2⟩; have HS2 := Lib.hid hS2; obtain ⟨ga, oa, hA2⟩ := own_some hS2 (by omega); subst hA2; have HP2 := Lib.hid (HP.out.bl (HB1.out.trans (hB2.mono HB1.out.size))); have HG2 := Lib.hid (HC1.out.keep (hB2.block g hgl)); have HB2 := Lib.hid hB2; clear hS2 hB2 hO2)
      | (go_at_call 17; refine (pwBegin (n := 40) HP2.out (by omega) (by omega) tn HTN.out (HER.out tn) ga oa m c2 kf (es.map entOf) (by rw [List.length_map]; exact HM.out) h1e h6e (EsV.of HS2.out (by rw [List.length_map]; exact HM.out)) HER2.out HEB.out HKF.out hbl).mono ?_; rintro e w3 ⟨a, order, rfl, ha, hpm, hP3, hC3⟩; have HA := Lib.hid ha; have HPM := Lib.hid hpm; have HP3 := Lib.hid hP3; have HC3 := Lib.hid hC3; have HG3 := Lib.hid (HG2.out.keep (hC3.block g HG2.out.lt (fun hx => hx (.inr ⟨HSZ.out, HG2.out.lt⟩)))); have z0 := HG3.out.cell 0; simp only [List.getElem?_toArray, List.getElem?_cons_succ, List.getElem?_cons_zero] at z0; have zf := HG3.out.frozen 0; have hgl3 := HG3.out.lt; clear ha hpm hP3 hC3))
    have HG4 := Lib.hid (HG3.out.set 0 (.pointer (some ⟨a, 0, none⟩)))
    have k0 := HG4.out.cell 0
    simp only [List.setIfInBounds_toArray, List.set_cons_succ, List.set_cons_zero, List.getElem?_toArray, List.getElem?_cons_succ, List.getElem?_cons_zero] at k0
    have hgl4 := HG4.out.lt
    obtain ⟨W4, hW4⟩ : ∃ W4, w3.setCell ⟨g, 0, none⟩ (.pointer (some ⟨a, 0, none⟩)) = W4 := ⟨_, rfl⟩
    have HW4 := Lib.hid hW4
    rw [hW4] at HG4 k0 hgl4 ⊢
    clear hW4 z0 zf y4
    go_quiet (fail)
    go_wp2
    have hsz2 : W1.heap.size ≤ w2.heap.size := HB2.out.size
    have hsz3 : w2.heap.size ≤ w3.heap.size := HC3.out.size
    have hgb : g < w2.heap.size := HG2.out.lt
    have hwz : w.heap.size ≤ w2.heap.size := Nat.le_trans HB1.out.size hsz2
    have HBB : Below w.heap.size w w2 := HB1.out.trans (HB2.out.mono HB1.out.size)
    have hCh : Ch (fun b => κ b = 0) w w3 := by
      refine (Ch.of_below (S := fun b => κ b = 0) HBB).trans HC3.out (fun b hb hw => ?_)
      by_cases hk0 : κ b = 0
      · exact hk0
      · exact absurd (.inl hk0) hb
    refine bodyPost_ret (v := .tuple #[.pointer (some ⟨g, 0, none⟩), .bool true]) (by simp [results, Tryz.results63, go_sem]) rfl ⟨g, B, cp, w2.heap.size, _, maOp (es.map entOf) a, rfl, HSZ.out, hgb, hwz, ?_, ?_, ?_, fun b hb => ?_, ?_, ?_, .inr ⟨HE0.out, a, tn, order, HTN.out, rfl, ?_, ?_, rfl⟩⟩
    · rw [← HW4.out]; simp; exact hsz3
    · have hx := HG4.out
      show CB W4 g _ (mcs (maOp (es.map entOf) a) ⟨wn, es⟩ B cp)
      unfold mcs maOp opV rdP
      dsimp only
      rw [HEM2.out, HM.out]
      exact hx
    · dsimp only
      rw [HM.out]
      refine ((HR1.out.bl HB2.out).keep HC3.out.size (fun b hb ho => HC3.out.block b hb (fun hx => hx (.inr ⟨(HOB.out b ho).1, hb⟩)))).keep (by rw [← HW4.out]; simp) (fun b hb ho => by rw [← HW4.out]; exact Below.heap_setCell _ _ _ _ (by show b ≠ g; have := (HOB.out b ho).2; omega))
    · have h1 := HOB.out b hb
      omega
    · rw [← HW4.out]
      exact (HP3.out.chK (T := At g) ((Ch.refl _ _).set1 0 _) (fun b _ hb => .inr (by rw [show b = g from hb]; exact ⟨HSZ.out, hgb⟩))).bl0 (bl_drewN (Below.refl _ _) _)
    · rw [← HW4.out]
      exact (hCh.trans ((Ch.refl _ _).set1 0 (.pointer (some ⟨a, 0, none⟩))) (fun b hb hw => by have hb : b = g := hb; have := HSZ.out; omega)).trans (Ch.of_below (S := fun _ => False) (bl_drewN (Below.refl _ _) _)) (fun _ hx _ => hx.elim)
    · have := HA.out
      omega
    · show order.Perm (List.range es.length)
      rw [HM.out]; exact HPM.out
end Go.Proofs.YtjaohgnloddgfaaGreatDoor

namespace Go.Proofs.YtjaohgnloddgfaaGreatDoor
open Go.RowKit
set_option linter.unusedVariables false
set_option linter.unusedSimpArgs false

/-- Blocks that are not the pool's change, and new ones are not the pool's. -/
theorem PMx.chG {K T : Nat → Prop} {p d line lines : Nat} {t : Nat → Nat} {size : Int} {w w' : World} {σ : PwS} (h : PMx K p d t line lines size w σ) (hc : Ch T w w') (hT : ∀ b, b < w.heap.size → T b → K b) : PMx (fun b => K b ∨ (w.heap.size ≤ b ∧ b < w'.heap.size)) p d t line lines size w' σ := by
  obtain ⟨role, bb, h, hK⟩ := h
  have hs := hc.size
  have hne : ∀ b, b < w.heap.size → role b ≠ 0 → w'.heap[b]? = w.heap[b]? := fun b hb hr => hc.block b hb (fun hx => hr (hK b (hT b hb hx)).1)
  refine ⟨fun b => if w.heap.size ≤ b then 0 else role b, bb, ⟨?_, h.pl.keep (hne p h.pl.lt (by rw [h.rp]; omega)), h.bz.keep (fun b hb' => ?_), ?_, ?_, h.pb, fun a o ho => (h.op a o ho).keep (fun b hl hr => by rw [if_neg (by omega)]; exact hr) (fun b hl hr => hne b hl (by rw [hr]; omega))⟩, fun b hk => ?_⟩
  · refine (h.dv.chLess hc (X := fun b => w.heap.size ≤ b ∧ b < w'.heap.size) (fun b hb hf hx => ?_) (fun b hx => hx)).mono (fun b hf => ?_)
    · have := (hK b (hT b hb hx)).1
      rcases hf with hf | hf
      · omega
      · omega
    · by_cases hl : w.heap.size ≤ b
      · right
        have := hf.2
        omega
      · left
        rw [if_neg hl]
        exact hf.1.resolve_right hl
  · have : b = bb := by simpa [OwnB, eq_comm] using hb'
    rw [this]; exact hne bb (h.bz.lt (b := bb) (by simp [OwnB])) (by rw [h.rb]; omega)
  · rw [if_neg (by have := h.pl.lt; omega)]; exact h.rp
  · rw [if_neg (by have := h.bz.lt (b := bb) (by simp [OwnB]); omega)]; exact h.rb
  · rcases hk with hk | hk
    · obtain ⟨h1, h2⟩ := hK b hk
      exact ⟨by show (if _ then _ else role b) = 0; rw [if_neg (by omega)]; exact h1, by omega⟩
    · exact ⟨if_pos hk.1, hk.2⟩
theorem PMx.opNone {K : Nat → Prop} {p d line lines : Nat} {t : Nat → Nat} {size : Int} {w : World} {σ : PwS} (h : PMx K p d t line lines size w σ) {a : Nat} (ha : w.heap.size ≤ a) : σ.ops a = none := by
  obtain ⟨role, bb, h, hK⟩ := h
  cases ho : σ.ops a with
  | none => rfl
  | some o => have := (h.op a o ho).lt; omega
theorem idxB_some {bs : List Bool} {k : Nat} (h : idxB bs = some k) : k < bs.length ∧ bs.getD k false = false := by
  unfold idxB at h
  have h1 := List.find?_some h
  have h2 : k < bs.length := by simpa using List.mem_of_find?_eq_some h
  refine ⟨h2, ?_⟩
  rw [List.getD_eq_getElem?_getD, List.getElem?_eq_getElem h2] at h1 ⊢
  simpa using h1
theorem idxB_ex {bs : List Bool} {k : Nat} (hk : k < bs.length) (h : bs.getD k false = false) : ∃ j, idxB bs = some j := by
  cases hx : idxB bs with
  | some j => exact ⟨j, rfl⟩
  | none =>
    unfold idxB at hx
    rw [List.find?_eq_none] at hx
    have := hx k (by simpa using hk)
    rw [List.getD_eq_getElem?_getD, List.getElem?_eq_getElem hk] at h this
    simp only [Option.getD_some] at h this
    rw [h] at this
    simp at this
/-- A descriptor is free while at most two calls have been prepared. -/
theorem BZ.room {σ : PwS} {ms : List MaS} {dk : Nat → Nat} (h : BZ σ ms dk) (hl : ms.length ≤ 2) : ∃ kf, idxB σ.busy = some kf := by
  have hlen := h.len
  by_cases h0 : σ.busy.getD 0 false = true
  · by_cases h1 : σ.busy.getD 1 false = true
    · by_cases h2 : σ.busy.getD 2 false = true
      · obtain ⟨i0, m0, _, a0, _, _, d0⟩ := (h.bt 0 (by omega)).1 h0
        obtain ⟨i1, m1, _, a1, _, _, d1⟩ := (h.bt 1 (by omega)).1 h1
        obtain ⟨i2, m2, _, a2, _, _, d2⟩ := (h.bt 2 (by omega)).1 h2
        have l0 := (List.getElem?_eq_some_iff.1 a0).1
        have l1 := (List.getElem?_eq_some_iff.1 a1).1
        have l2 := (List.getElem?_eq_some_iff.1 a2).1
        have n01 : i0 ≠ i1 := fun hx => by rw [hx] at d0; omega
        have n02 : i0 ≠ i2 := fun hx => by rw [hx] at d0; omega
        have n12 : i1 ≠ i2 := fun hx => by rw [hx] at d1; omega
        omega
      · exact idxB_ex (k := 2) (by omega) (by simpa using h2)
    · exact idxB_ex (k := 1) (by omega) (by simpa using h1)
  · exact idxB_ex (k := 0) (by omega) (by simpa using h0)
theorem get_snoc {ms : List MaS} {m mj : MaS} {j : Nat} (h : (ms ++ [m])[j]? = some mj) : (j < ms.length ∧ ms[j]? = some mj) ∨ (j = ms.length ∧ mj = m) := by
  by_cases hj : j < ms.length
  · rw [List.getElem?_append_left hj] at h; exact .inl ⟨hj, h⟩
  · rw [List.getElem?_append_right (by omega)] at h
    have hl := (List.getElem?_eq_some_iff.1 h).1
    have : j = ms.length := by simp at hl; omega
    subst this
    simp at h
    exact .inr ⟨rfl, h.symm⟩
theorem get_snoc_old {ms : List MaS} {m mj : MaS} {j : Nat} (h : ms[j]? = some mj) : (ms ++ [m])[j]? = some mj := by
  rw [List.getElem?_append_left (List.getElem?_eq_some_iff.1 h).1]; exact h
theorem BZ.addRd {σ : PwS} {ms : List MaS} {dk : Nat → Nat} {m : MaS} {k : Nat} (h : BZ σ ms dk) (hk : m.kd = .rd k) : BZ σ (ms ++ [m]) dk := by
  have key : ∀ (j : Nat) (mj : MaS) (es : List Ent), (ms ++ [m])[j]? = some mj → mj.kd = .op es → ms[j]? = some mj := by
    intro j mj es hj hkj
    rcases get_snoc hj with ⟨_, h1⟩ | ⟨_, h1⟩
    · exact h1
    · rw [h1, hk] at hkj; cases hkj
  refine ⟨h.len, fun j mj es hj hkj => h.at_ j mj es (key _ _ _ hj hkj) hkj, fun i j mi mj ei ej h1 h2 h3 h4 h5 => h.inj i j mi mj ei ej (key _ _ _ h1 h3) (key _ _ _ h2 h4) h3 h4 h5, fun q hq => ?_⟩
  rw [h.bt q hq]
  constructor
  · rintro ⟨j, mj, es, h1, h2⟩
    exact ⟨j, mj, es, get_snoc_old h1, h2⟩
  · rintro ⟨j, mj, es, h1, h2, h3⟩
    exact ⟨j, mj, es, key _ _ _ h1 h2, h2, h3⟩
theorem BZ.addOp {σ σ' : PwS} {ms : List MaS} {dk : Nat → Nat} {m : MaS} {es : List Ent} {kf : Nat} {o : OpS} (h : BZ σ ms dk) (hall : ∀ (j : Nat) (mj : MaS), ms[j]? = some mj → mj.done = false) (hk : m.kd = .op es) (hd : m.done = false) (hf : idxB σ.busy = some kf) (hb : σ'.busy = σ.busy.set kf true) (ho : σ'.ops m.blk = some o) (hok : o.k = kf) (hold : ∀ a oa, σ.ops a = some oa → σ'.ops a = some oa) :
    BZ σ' (ms ++ [m]) (fun j => if j = ms.length then kf else dk j) := by
  obtain ⟨f1, f2⟩ := idxB_some hf
  rw [h.len] at f1
  have hdk : ∀ j, j < ms.length → (if j = ms.length then kf else dk j) = dk j := fun j hj => if_neg (by omega)
  have hnk : ∀ (j : Nat) (mj : MaS) (ej : List Ent), ms[j]? = some mj → mj.kd = .op ej → dk j ≠ kf := fun j mj ej h1 h2 h4 => by
    have := (h.bt kf f1).2 ⟨j, mj, ej, h1, h2, hall j mj h1, h4⟩
    rw [f2] at this; cases this
  refine ⟨by rw [hb, List.length_set]; exact h.len, fun j mj ej hj hkj => ?_, fun i j mi mj ei ej h1 h2 h3 h4 h5 => ?_, fun q hq => ?_⟩
  · rcases get_snoc hj with ⟨l, h1⟩ | ⟨l, h1⟩
    · obtain ⟨a1, oa, a2, a3⟩ := h.at_ j mj ej h1 hkj
      rw [hdk j l]
      exact ⟨a1, oa, hold _ _ a2, a3⟩
    · rw [if_pos l, h1]
      exact ⟨f1, o, ho, hok⟩
  · rcases get_snoc h1 with ⟨l1, g1⟩ | ⟨l1, g1⟩
    · rcases get_snoc h2 with ⟨l2, g2⟩ | ⟨l2, g2⟩
      · rw [hdk i l1, hdk j l2] at h5
        exact h.inj i j mi mj ei ej g1 g2 h3 h4 h5
      · rw [hdk i l1, if_pos l2] at h5
        exact absurd h5 (hnk i mi ei g1 h3)
    · rcases get_snoc h2 with ⟨l2, g2⟩ | ⟨l2, g2⟩
      · rw [hdk j l2, if_pos l1] at h5
        exact absurd h5.symm (hnk j mj ej g2 h4)
      · rw [l1, l2]
  · rw [hb]
    by_cases hqk : q = kf
    · subst hqk
      have hl : q < σ.busy.length := by rw [h.len]; exact hq
      rw [List.getD_eq_getElem?_getD, List.getElem?_set_self hl]
      simp only [Option.getD_some, true_iff]
      exact ⟨ms.length, m, es, by simp, hk, hd, if_pos rfl⟩
    · rw [List.getD_eq_getElem?_getD, List.getElem?_set_ne (Ne.symm hqk), ← List.getD_eq_getElem?_getD, h.bt q hq]
      constructor
      · rintro ⟨j, mj, ej, g1, g2, g3, g4⟩
        have hjl := (List.getElem?_eq_some_iff.1 g1).1
        exact ⟨j, mj, ej, get_snoc_old g1, g2, g3, by rw [hdk j hjl]; exact g4⟩
      · rintro ⟨j, mj, ej, g1, g2, g3, g4⟩
        rcases get_snoc g1 with ⟨l1, x1⟩ | ⟨l1, x1⟩
        · rw [hdk j l1] at g4
          exact ⟨j, mj, ej, x1, g2, g3, g4⟩
        · rw [if_pos l1] at g4
          exact absurd g4.symm hqk
/-- Calls that have been prepared. -/
structure BegS (κ : Nat → Nat) (p d : Nat) (t : Nat → Nat) (L0 : Nat → Int) (dk : Nat → Nat) (B n0 : Nat) (wB : World) (qs : List TdS) (gs : List Nat) (w : World) (σ : PwS) (ms : List MaS) : Prop where
  ex : ∃ N xs, Inv sumI (atW 0) 40 8 M17 N σ xs L0 ∧ N ≤ B
  cur : σ.cur = none
  bz : BZ σ ms dk
  pm : PMx (fun b => κ b ≠ 0) p d t 0 32 ((40 : Nat) * 64) w σ
  mm : ∀ (i : Nat) (m : MaS), ms[i]? = some m → MaM κ i p t w (gs.getD i 0) m (qs.getD i TD0)
  st : ∀ (i : Nat) (m : MaS), ms[i]? = some m → m.on = false ∧ m.done = false ∧ (∀ es, m.kd = .op es → ∃ o, σ.ops m.blk = some o ∧ o.es = es ∧ o.res = none ∧ o.ended = false) ∧ ∀ k, m.kd = .rd k → M17 k ∧ k < 8 * 40 ∧ m.rs.off = 8 * (k : Int) ∧ m.rs.th < 8 ∧ m.rs.err = 0 ∧ m.rs.place = 0 ∧ m.rs.ended = false ∧ m.rs.raw = 0
  inj : ∀ (i j : Nat) (mi mj : MaS), ms[i]? = some mi → ms[j]? = some mj → (∃ es, mi.kd = .op es) → (∃ es, mj.kd = .op es) → mi.blk = mj.blk → i = j
  tab : Tab w
  k0 : κ 0 = 1
  bl : Below n0 wB w
  nl : n0 ≤ w.heap.size
  kb : ∀ b, b < n0 → κ b = 1
  lq : qs.length = ms.length
  lg : gs.length = ms.length
  l3 : ms.length ≤ 3
section
variable {κ κ' : Nat → Nat} {p d : Nat} {t : Nat → Nat} {L0 : Nat → Int} {dk : Nat → Nat} {B n0 : Nat} {wB w w' : World} {qs : List TdS} {gs : List Nat} {σ : PwS} {ms : List MaS}
/-- The run begins. -/
theorem BegS.run (h : BegS κ p d t L0 dk B n0 wB qs gs w σ ms) : RunS κ p d t (ms.map (·.kd)) L0 dk B qs gs w σ ms 0 := by
  obtain ⟨N, xs, hI, hN⟩ := h.ex
  refine ⟨⟨⟨N, xs, L0, [], hI, Ls.start h.cur rfl (fun i m hi => ?_) h.inj, by omega⟩, h.l3, h.bz⟩, h.pm, h.mm, fun i m k hi hk => ?_, h.tab, h.k0⟩
  · obtain ⟨a1, a2, a3, a4⟩ := h.st i m hi
    exact ⟨a1, a2, a3, fun k hk => by obtain ⟨b1, b2, b3, b4, b5, b6, b7, _⟩ := a4 k hk; exact ⟨b1, b2, b3, b4, b5, b6, b7⟩⟩
  · obtain ⟨_, _, _, _, _, _, _, b8⟩ := (h.st i m hi).2.2.2 k hk
    rw [b8]; omega
/-- Memory that neither the pool nor the machines have changes, or is new. -/
theorem BegS.move (h : BegS κ p d t L0 dk B n0 wB qs gs w σ ms) {T : Nat → Prop} (hC : Ch T w w') (hT : ∀ b, b < w.heap.size → T b → κ b = 9) (hk1 : ∀ b, κ b ≠ 0 → κ' b = κ b) (hk2 : ∀ b, κ' b ≠ 0 → κ b ≠ 0 ∨ (w.heap.size ≤ b ∧ b < w'.heap.size)) : BegS κ' p d t L0 dk B n0 wB qs gs w' σ ms := by
  refine ⟨h.ex, h.cur, h.bz, (h.pm.chG hC (fun b hb hx => by have := hT b hb hx; omega)).less hk2, fun i m hi => ?_, h.st, h.inj, h.tab.ch hC (fun hx => by have := hT 0 h.tab.1 hx; rw [h.k0] at this; omega), by rw [hk1 0 (by rw [h.k0]; omega)]; exact h.k0, ?_, Nat.le_trans h.nl hC.size, fun b hb => by rw [hk1 b (by rw [h.kb b hb]; omega)]; exact h.kb b hb, h.lq, h.lg, h.l3⟩
  · have hil := (List.getElem?_eq_some_iff.1 hi).1
    have h3 := h.l3
    exact ((h.mm i m hi).ch hC (fun b hb hx => by have := hT b hb hx; omega)).role hk1
  · refine ⟨hC.os.trans h.bl.os, hC.tape.trans h.bl.tape, hC.output.trans h.bl.output, Nat.le_trans h.bl.size hC.size, fun b hb => ?_⟩
    have hbw : b < w.heap.size := Nat.lt_of_lt_of_le hb h.nl
    exact (hC.block b hbw (fun hx => by have := hT b hbw hx; rw [h.kb b hb] at this; omega)).trans (h.bl.block b hb)
end
end Go.Proofs.YtjaohgnloddgfaaGreatDoor

namespace Go.Proofs.YtjaohgnloddgfaaGreatDoor
open Go.RowKit
set_option linter.unusedVariables false
set_option linter.unusedSimpArgs false

theorem getD_snoc_old {α : Type} (l : List α) (x d : α) {i : Nat} (h : i < l.length) : (l ++ [x]).getD i d = l.getD i d := by
  rw [List.getD_eq_getElem?_getD, List.getD_eq_getElem?_getD, List.getElem?_append_left h]
theorem getD_snoc_new {α : Type} (l : List α) (x d : α) {i : Nat} (h : i = l.length) : (l ++ [x]).getD i d = x := by
  subst h
  rw [List.getD_eq_getElem?_getD, List.getElem?_append_right (Nat.le_refl _)]
  simp
section
variable {κ : Nat → Nat} {p d kf : Nat} {t : Nat → Nat} {L0 : Nat → Int} {dk : Nat → Nat} {B n0 : Nat} {wB w w' : World} {qs : List TdS} {gs : List Nat} {σ : PwS} {ms : List MaS} {q : TdS} {e : Ending}
theorem BegS.add (h : BegS κ p d t L0 dk B n0 wB qs gs w σ ms) (hl : ms.length ≤ 2) (hkf : idxB σ.busy = some kf) (hq : TdOk q) (hP : BgPost κ p d t w σ kf q e w') :
    ∃ g κ' dk' σ' m, e = .returned (.tuple #[.pointer (some ⟨g, 0, none⟩), .bool true]) ∧ BegS κ' p d t L0 dk' B n0 wB (qs ++ [q]) (gs ++ [g]) w' σ' (ms ++ [m]) ∧ (∀ b, κ b ≠ 0 → κ' b = κ b) ∧ (∀ b, κ' b = 9 → κ b = 9) ∧ Ch (fun b => κ b = 0) w w' := by
  obtain ⟨g, B', cp, z, σ', m, he, g1, g2, g3, g4, hCB, hRs, hOB, hPM, hCh, hcase⟩ := hP
  obtain ⟨N, xs, hI, hN⟩ := h.ex
  have hlt : ∀ b, κ b ≠ 0 → b < w.heap.size := fun b hb => h.pm.lk (K := fun b => κ b ≠ 0) hb
  obtain ⟨κ', hκ'⟩ : ∃ κ' : Nat → Nat, κ' = fun b => if w.heap.size ≤ b ∧ b < z then (if b = g ∨ (q.es = [] ∧ b = m.blk) then ms.length + 2 else 1) else κ b := ⟨_, rfl⟩
  have hk1 : ∀ b, κ b ≠ 0 → κ' b = κ b := fun b hb => by rw [hκ']; exact if_neg (by have := hlt b hb; omega)
  have hk2 : ∀ b, κ' b ≠ 0 → κ b ≠ 0 ∨ (w.heap.size ≤ b ∧ b < z) := fun b hb => by
    by_cases hx : w.heap.size ≤ b ∧ b < z
    · exact .inr hx
    · rw [hκ'] at hb
      simp only [hx, if_false] at hb
      exact .inl hb
  have hkg : κ' g = ms.length + 2 := by rw [hκ']; simp only [g1, g2, and_self, if_true, true_or]
  have hkn : ∀ b, w.heap.size ≤ b → b < z → b ≠ g → ¬ (q.es = [] ∧ b = m.blk) → κ' b = 1 := fun b h1 h2 h3 h4 => by
    rw [hκ']
    simp only [h1, h2, and_self, if_true, h3, h4, or_self, if_false]
  have hk9 : ∀ b, κ' b = 9 → κ b = 9 := fun b hb => by
    rw [hκ'] at hb
    dsimp only at hb
    split at hb
    · split at hb
      · omega
      · omega
    · exact hb
  have hkz : κ' 0 = 1 := by rw [hk1 0 (by rw [h.k0]; omega)]; exact h.k0
  have hops : ∀ a oa, σ.ops a = some oa → σ'.ops a = some oa := fun a oa ha => by
    rcases hcase with ⟨_, rfl, _⟩ | ⟨_, blk, th, order, _, _, hb, _, rfl⟩
    · exact ha
    · show (if a = blk then _ else σ.ops a) = some oa
      rw [if_neg (fun hx => by have := h.pm.opNone hb; rw [← hx, ha] at this; cases this)]; exact ha
  have hkd : KdOk q m.kd := by
    rcases hcase with ⟨h0, _, blk, th, _, rfl, _⟩ | ⟨h0, blk, th, order, _, rfl, _⟩
    · exact ⟨rfl, h0⟩
    · exact ⟨rfl, h0⟩
  have hnd : m.on = false ∧ m.done = false := by
    rcases hcase with ⟨h0, _, blk, th, _, rfl, _⟩ | ⟨h0, blk, th, order, _, rfl, _⟩ <;> exact ⟨rfl, rfl⟩
  have hcur : σ'.cur = none := by
    rcases hcase with ⟨_, rfl, _⟩ | ⟨_, blk, th, order, _, _, hb, _, rfl⟩
    · exact h.cur
    · exact h.cur
  have hI' : ∃ N xs, Inv sumI (atW 0) 40 8 M17 N σ' xs L0 ∧ N ≤ B := by
    rcases hcase with ⟨_, rfl, _⟩ | ⟨h0, blk, th, order, hth, _, hb, hp, rfl⟩
    · exact ⟨N, xs, hI, hN⟩
    · obtain ⟨e1, e2⟩ := entOk17 hq.2
      have hl6 : q.es.length ≤ 6 := hq.2.l
      have hl1 : 1 ≤ q.es.length := by cases hqe : q.es with
        | nil => exact absurd hqe h0
        | cons x l => simp
      have hok : OpOk 8 40 M17 (newOp kf th (q.es.map entOf) order) := newOp_ok hth (by have := (idxB_some hkf).1; rw [h.bz.len] at this; exact this) (by simpa using hl1) (by simpa using hl6) e1 e2 (by rw [List.length_map]; exact hp)
      exact ⟨N, xs, hI.addOp (h.pm.opNone hb) hok rfl rfl rfl rfl rfl, hN⟩
  have hbz : ∃ dk', BZ σ' (ms ++ [m]) dk' := by
    rcases hcase with ⟨_, rfl, blk, th, _, rfl, _⟩ | ⟨h0, blk, th, order, hth, rfl, hb, hp, rfl⟩
    · exact ⟨dk, h.bz.addRd rfl⟩
    · exact ⟨_, h.bz.addOp (m := maOp (q.es.map entOf) blk) (o := newOp kf th (q.es.map entOf) order) (fun j mj hj => (h.st j mj hj).2.1) rfl rfl hkf rfl (if_pos rfl) rfl hops⟩
  obtain ⟨dk', hbz⟩ := hbz
  have hchK : ∀ b, b < w.heap.size → κ b = 0 → ∀ i, κ b ≠ 1 ∧ κ b ≠ i + 2 := fun b _ hb i => by omega
  refine ⟨g, κ', dk', σ', m, he, ⟨hI', hcur, hbz, hPM.less hk2, fun i mi hi => ?_, fun i mi hi => ?_, fun i j mi mj hi hj h1 h2 h3 => ?_, h.tab.ch hCh (fun hx => by rw [h.k0] at hx; cases hx), hkz, ?_, Nat.le_trans h.nl hCh.size, fun b hb => by rw [hk1 b (by rw [h.kb b hb]; omega)]; exact h.kb b hb, by simp [h.lq], by simp [h.lg], by simp; omega⟩, hk1, hk9, hCh⟩
  · rcases get_snoc hi with ⟨l1, x1⟩ | ⟨l1, x1⟩
    · rw [getD_snoc_old _ _ _ (by rw [h.lg]; exact l1), getD_snoc_old _ _ _ (by rw [h.lq]; exact l1)]
      exact ((h.mm i mi x1).ch hCh (fun b hb hx => hchK b hb hx i)).role hk1
    · rw [getD_snoc_new _ _ _ (by rw [h.lg]; exact l1), getD_snoc_new _ _ _ (by rw [h.lq]; exact l1), x1, l1]
      have hBk : ∀ b, OwnB B' b → κ' b = 1 := fun b hb => by
        obtain ⟨b1, b2, b3⟩ := hOB b hb
        refine hkn b b1 b2 b3 (fun hx => ?_)
        rcases hcase with ⟨h0, _, blk, th, _, rfl, _, _, _, hne, _⟩ | ⟨h0, _⟩
        · exact hne b hb hx.2
        · exact h0 hx.1
      refine ⟨⟨B', cp, hCB, hRs, hBk⟩, hkg, hkd, hq, fun k hk => ?_⟩
      rcases hcase with ⟨h0, _, blk, th, _, rfl, hb1, hb2, hb3, _, hC⟩ | ⟨h0, blk, th, order, _, rfl, _⟩
      · refine ⟨?_, hb3, hC⟩
        rw [hκ']
        have e1 : (maRd (288 + q.word) blk th).blk = blk := rfl
        rw [e1]
        simp only [hb1, hb2, and_self, if_true, h0, or_true]
      · cases hk
  · rcases get_snoc hi with ⟨l1, x1⟩ | ⟨l1, x1⟩
    · obtain ⟨a1, a2, a3, a4⟩ := h.st i mi x1
      refine ⟨a1, a2, fun es hes => ?_, a4⟩
      obtain ⟨o, o1, o2⟩ := a3 es hes
      exact ⟨o, hops _ _ o1, o2⟩
    · rw [x1]
      refine ⟨hnd.1, hnd.2, fun es hes => ?_, fun k hk => ?_⟩
      · rcases hcase with ⟨h0, _, blk, th, _, rfl, _⟩ | ⟨h0, blk, th, order, _, rfl, _, _, rfl⟩
        · cases hes
        · refine ⟨newOp kf th (q.es.map entOf) order, if_pos rfl, ?_, rfl, rfl⟩
          injection hes
      · rcases hcase with ⟨h0, _, blk, th, hth, rfl, _⟩ | ⟨h0, blk, th, order, _, rfl, _⟩
        · injection hk with hk
          subst hk
          have := hq.1
          exact ⟨by unfold M17; omega, by omega, rfl, hth, rfl, rfl, rfl, rfl⟩
        · cases hk
  · have old : ∀ (i : Nat) (mi : MaS), ms[i]? = some mi → (∃ es, mi.kd = .op es) → ∃ o, σ.ops mi.blk = some o := fun i mi hi ⟨es, hes⟩ => by
      obtain ⟨o, o1, _⟩ := (h.st i mi hi).2.2.1 es hes
      exact ⟨o, o1⟩
    have new : (∃ es, m.kd = .op es) → σ.ops m.blk = none := fun ⟨es, hes⟩ => by
      rcases hcase with ⟨h0, _, blk, th, _, rfl, _⟩ | ⟨h0, blk, th, order, _, rfl, hb, _, rfl⟩
      · cases hes
      · exact h.pm.opNone hb
    rcases get_snoc hi with ⟨l1, x1⟩ | ⟨l1, x1⟩
    · rcases get_snoc hj with ⟨l2, x2⟩ | ⟨l2, x2⟩
      · exact h.inj i j mi mj x1 x2 h1 h2 h3
      · obtain ⟨o, o1⟩ := old i mi x1 h1
        rw [x2] at h2 h3
        rw [h3, new h2] at o1; cases o1
    · rcases get_snoc hj with ⟨l2, x2⟩ | ⟨l2, x2⟩
      · obtain ⟨o, o1⟩ := old j mj x2 h2
        rw [x1] at h1 h3
        rw [← h3, new h1] at o1; cases o1
      · rw [l1, l2]
  · refine ⟨hCh.os.trans h.bl.os, hCh.tape.trans h.bl.tape, hCh.output.trans h.bl.output, Nat.le_trans h.bl.size hCh.size, fun b hb => ?_⟩
    have hbw : b < w.heap.size := Nat.lt_of_lt_of_le hb h.nl
    exact (hCh.block b hbw (fun hx => by rw [h.kb b hb] at hx; cases hx)).trans (h.bl.block b hb)
end
end Go.Proofs.YtjaohgnloddgfaaGreatDoor

namespace Go.Proofs.YtjaohgnloddgfaaGreatDoor
open Go.RowKit
set_option linter.unusedVariables false
set_option linter.unusedSimpArgs false

def LC := Int × Int × List (Int × Int × Int)
def C0 : Int × Int × List (Int × Int × Int) := (0, 0, [])
/-- A view of calls of the law. -/
def LcV (w : World) (A : Option Addr) (n c : Nat) (cs : List (Int × Int × List (Int × Int × Int))) : Prop :=
  cs.length = n ∧ n ≤ c ∧ ∀ k, k < n → ∃ g off A' n' c', A = some ⟨g, off, none⟩ ∧ g < w.heap.size ∧ n' < 9223372036854775808 ∧ w.cell? ⟨g, off + k * 3, none⟩ = some (.int .i64 (cs.getD k C0).1) ∧ w.cell? ⟨g, off + k * 3 + 1, none⟩ = some (.int .i64 (cs.getD k C0).2.1) ∧ w.cell? ⟨g, off + k * 3 + 2, none⟩ = some (.slice A' n' c') ∧ RiV w A' n' c' (cs.getD k C0).2.2
def LcW (cs : List (Int × Int × List (Int × Int × Int))) : Prop := ∀ c ∈ cs, (-9223372036854775808 ≤ c.1 ∧ c.1 < 9223372036854775808) ∧ (-9223372036854775808 ≤ c.2.1 ∧ c.2.1 < 9223372036854775808) ∧ RiW c.2.2
def qOf (c : Int × Int × List (Int × Int × Int)) : TdS := ⟨(c.2.1 % 8).toNat, tdEs c.2.2⟩
def qsOf (cs : List (Int × Int × List (Int × Int × Int))) : List TdS := cs.map qOf
theorem qOf_ok (c : Int × Int × List (Int × Int × Int)) : TdOk (qOf c) := ⟨by show (c.2.1 % 8).toNat < 8; omega, tdEs_ok _⟩
theorem qsOf_succ (cs : List (Int × Int × List (Int × Int × Int))) {j : Nat} (hj : j < cs.length) : qsOf (cs.take (j + 1)) = qsOf (cs.take j) ++ [qOf (cs.getD j C0)] := by
  unfold qsOf
  rw [List.take_succ_eq_append_getElem hj, List.map_append, List.getD_eq_getElem?_getD, List.getElem?_eq_getElem hj]; rfl
def ptrV (g : Nat) : Value := .pointer (some ⟨g, 0, none⟩)
theorem info_pMachine : (Tryz.prog.info? 49).map (fun i => (i.zero, i.size, i.bytes)) = some (some (.pointer none), 1, 8) := by kernel_rfl
/-- What had role 1 at the start keeps it, and is as it was. -/
def Kp (κ0 : Nat → Nat) (w0 : World) (κ : Nat → Nat) (w : World) : Prop := ∀ b, κ0 b = 1 → κ b = 1 ∧ w.heap[b]? = w0.heap[b]?
/-- The first loop: j calls have been prepared. -/
def Rn1 (κ0 : Nat → Nat) (w0 : World) (p d : Nat) (t : Nat → Nat) (L0 : Nat → Int) (B n0 : Nat) (wB : World) (cs : List (Int × Int × List (Int × Int × Int))) (j : Nat) (As : Option Addr) (cA : Nat) (wr : World) : Prop :=
  ∃ κ dk gs σ ms, BegS κ p d t L0 dk B n0 wB (qsOf (cs.take j)) gs wr σ ms ∧ ms.length = j ∧ Sl 49 1 wr As j cA (gs.map ptrV) ∧ (∀ b, OwnB As b → κ b = 9) ∧ Kp κ0 w0 κ wr
/-- Behind the append of a machine. -/
theorem Rn1.app {κ0 : Nat → Nat} {w0 : World} {p d : Nat} {t : Nat → Nat} {L0 : Nat → Int} {dk : Nat → Nat} {B n0 : Nat} {wB w1 w4 : World} {gs : List Nat} {σ : PwS} {ms : List MaS} {κ : Nat → Nat} {As A4 : Option Addr} {j c4 : Nat} {cs : List (Int × Int × List (Int × Int × Int))} (h : BegS κ p d t L0 dk B n0 wB (qsOf (cs.take j)) gs w1 σ ms) (hm : ms.length = j) (o : Obj) (hO : ∀ b, OwnB As b → κ b = 9) (hKp : Kp κ0 w0 κ w1)
    (hC : Ch (OwnB As) (w1.alloc o) w4) (hS : Sl 49 1 w4 A4 j c4 (gs.map ptrV)) (hW : ∀ b, OwnB A4 b → OwnB As b ∨ b = (w1.alloc o).heap.size) : Rn1 κ0 w0 p d t L0 B n0 wB cs j A4 c4 w4 := by
  have hsz : (w1.alloc o).heap.size = w1.heap.size + 1 := by simp
  have hs4 := hC.size
  have hlt : ∀ b, κ b ≠ 0 → b < w1.heap.size := fun b hb => h.pm.lk (K := fun b => κ b ≠ 0) hb
  have hCC : Ch (OwnB As) w1 w4 := (Ch.of_below (S := OwnB As) (bl_alloc (Below.refl _ _) _)).trans hC (fun b hb _ => hb)
  refine ⟨fun b => if A4.map (·.block) = some b then 9 else κ b, dk, gs, σ, ms, h.move hCC (fun b _ hb => hO b hb) (fun b hb => ?_) (fun b hb => ?_), hm, hS, fun b hb => if_pos hb, fun b hb => ?_⟩
  · split
    · rename_i hx
      rcases hW b hx with h1 | h1
      · exact (hO b h1).symm
      · have := hlt b hb; omega
    · rfl
  · split at hb
    · rename_i hx
      rcases hW b hx with h1 | h1
      · left; rw [hO b h1]; omega
      · right
        have := hS.lt hx
        omega
    · exact .inl hb
  · obtain ⟨k1, k2⟩ := hKp b hb
    have hbl := hlt b (by omega)
    refine ⟨?_, (hCC.block b hbl (fun hx => by rw [hO b hx] at k1; cases k1)).trans k2⟩
    show (if A4.map (·.block) = some b then 9 else κ b) = 1
    split
    · rename_i hx
      rcases hW b hx with h1 | h1
      · rw [hO b h1] at k1; cases k1
      · omega
    · exact k1
/-- A step of a machine of the run. -/
theorem RunS.stepAll {κ : Nat → Nat} {p d : Nat} {t : Nat → Nat} {ks : List Kd} {L0 : Nat → Int} {dk : Nat → Nat} {B n0 a i M cA : Nat} {wB w : World} {qs : List TdS} {gs : List Nat} {σ : PwS} {ms : List MaS} {m : MaS} {As : Option Addr} (h : RunS κ p d t ks L0 dk B qs gs w σ ms a) (hB : B + a < 1000000) (hi : ms[i]? = some m)
    (hSl : Sl 49 1 w As M cA (gs.map ptrV)) (hO : ∀ b, OwnB As b → κ b = 9) (hBl : Below n0 wB w) (hn0 : n0 ≤ w.heap.size) (hkb : ∀ b, b < n0 → κ b = 1) :
    Calls Tryz.prog 28 #[.pointer (some ⟨gs.getD i 0, 0, none⟩), .int .i64 (a : Int)] w fun e w' => e = .returned (.tuple #[]) ∧ ∃ σ' m', RunS κ p d t ks L0 dk B qs gs w' σ' (ms.set i m') (a + 1) ∧ (m.done = true → m'.done = true) ∧ muS σ' (ms.set i m') ≤ muS σ ms ∧ (m.done = false → muS σ' (ms.set i m') + 1 ≤ muS σ ms) ∧ Sl 49 1 w' As M cA (gs.map ptrV) ∧ Below n0 wB w' ∧ n0 ≤ w'.heap.size ∧ Ch (fun b => κ b ≠ 1 ∧ κ b ≠ 9) w w' := by
  refine (h.step hB hi).mono ?_
  rintro e w' ⟨rfl, σ', m', h1, h2, _, h3, h4, h5⟩
  refine ⟨rfl, σ', m', h1, h3, h4, h5, hSl.keep (fun b hb => h2.block b (hSl.lt hb) (fun hx => hx.2 (hO b hb))), ?_, Nat.le_trans hn0 h2.size, h2⟩
  refine ⟨h2.os.trans hBl.os, h2.tape.trans hBl.tape, h2.output.trans hBl.output, Nat.le_trans hBl.size h2.size, fun b hb => ?_⟩
  exact (h2.block b (Nat.lt_of_lt_of_le hb hn0) (fun hx => hx.1 (hkb b hb))).trans (hBl.block b hb)
/-- The later loops. -/
def Rn2 (κ0 : Nat → Nat) (w0 : World) (κ : Nat → Nat) (p d : Nat) (t : Nat → Nat) (ks : List Kd) (L0 : Nat → Int) (dk : Nat → Nat) (B n0 : Nat) (wB : World) (qs : List TdS) (gs : List Nat) (M : Nat) (As : Option Addr) (cA a mu : Nat) (ms : List MaS) (wr : World) : Prop :=
  ∃ σ, RunS κ p d t ks L0 dk B qs gs wr σ ms a ∧ ms.length = M ∧ muS σ ms ≤ mu ∧ Sl 49 1 wr As M cA (gs.map ptrV) ∧ Below n0 wB wr ∧ n0 ≤ wr.heap.size ∧ Kp κ0 w0 κ wr
theorem Rn2.step {κ0 : Nat → Nat} {w0 : World} {κ : Nat → Nat} {p d : Nat} {t : Nat → Nat} {ks : List Kd} {L0 : Nat → Int} {dk : Nat → Nat} {B n0 a i M cA mu : Nat} {wB w : World} {qs : List TdS} {gs : List Nat} {ms : List MaS} {As : Option Addr} (h : Rn2 κ0 w0 κ p d t ks L0 dk B n0 wB qs gs M As cA a mu ms w) (hB : B + a < 1000000) (hi : i < M) (hO : ∀ b, OwnB As b → κ b = 9) (hkb : ∀ b, b < n0 → κ b = 1) :
    Calls Tryz.prog 28 #[.pointer (some ⟨gs.getD i 0, 0, none⟩), .int .i64 (a : Int)] w fun e w' => e = .returned (.tuple #[]) ∧ ∃ m m', ms[i]? = some m ∧ (m.done = true → m'.done = true) ∧ Rn2 κ0 w0 κ p d t ks L0 dk B n0 wB qs gs M As cA (a + 1) mu (ms.set i m') w' ∧ (m.done = false → 1 ≤ mu ∧ Rn2 κ0 w0 κ p d t ks L0 dk B n0 wB qs gs M As cA (a + 1) (mu - 1) (ms.set i m') w') := by
  obtain ⟨σ, h1, h2, h3, h4, h5, h6, h7⟩ := h
  have hi' : ms[i]? = some ms[i] := List.getElem?_eq_getElem (by omega)
  refine (h1.stepAll hB hi' h4 hO h5 h6 hkb).mono ?_
  rintro e w' ⟨rfl, σ', m', g1, g2, g3, g4, g5, g6, g7, g8⟩
  have hKp : Kp κ0 w0 κ w' := fun b hb => by
    obtain ⟨k1, k2⟩ := h7 b hb
    exact ⟨k1, (g8.block b (h1.pm.lk (K := fun b => κ b ≠ 0) (by omega)) (fun hx => hx.1 k1)).trans k2⟩
  refine ⟨rfl, ms[i], m', hi', g2, ⟨σ', g1, by rw [List.length_set]; exact h2, by omega, g5, g6, g7, hKp⟩, fun hd => ?_⟩
  have := g4 hd
  exact ⟨by omega, σ', g1, by rw [List.length_set]; exact h2, by omega, g5, g6, g7, hKp⟩
theorem Rn2.cell {κ0 : Nat → Nat} {w0 : World} {κ : Nat → Nat} {p d : Nat} {t : Nat → Nat} {ks : List Kd} {L0 : Nat → Int} {dk : Nat → Nat} {B n0 a i M cA mu : Nat} {wB w : World} {qs : List TdS} {gs : List Nat} {ms : List MaS} {As : Option Addr} (h : Rn2 κ0 w0 κ p d t ks L0 dk B n0 wB qs gs M As cA a mu ms w) (hi : i < M) : ∃ g off, As = some ⟨g, off, none⟩ ∧ g < w.heap.size ∧ w.cell? ⟨g, off + i, none⟩ = some (.pointer (some ⟨gs.getD i 0, 0, none⟩)) := by
  obtain ⟨σ, h1, h2, h3, h4, h5, h6⟩ := h
  have hl := h4.1
  simp at hl
  obtain ⟨g, off, hA, hlt, hc⟩ := h4.at_ (j := i) (by simp; omega)
  refine ⟨g, off, hA, hlt, ?_⟩
  rw [hc]
  simp [ptrV, List.getD_eq_getElem?_getD, List.getElem?_eq_getElem (show i < gs.length by omega)]
theorem Rn2.mono {κ0 : Nat → Nat} {w0 : World} {κ : Nat → Nat} {p d : Nat} {t : Nat → Nat} {ks : List Kd} {L0 : Nat → Int} {dk : Nat → Nat} {B n0 a M cA mu mu' : Nat} {wB w : World} {qs : List TdS} {gs : List Nat} {ms : List MaS} {As : Option Addr} (h : Rn2 κ0 w0 κ p d t ks L0 dk B n0 wB qs gs M As cA a mu ms w) (hm : mu ≤ mu') : Rn2 κ0 w0 κ p d t ks L0 dk B n0 wB qs gs M As cA a mu' ms w := by
  obtain ⟨σ, h1, h2, h3, h4, h5, h6⟩ := h
  exact ⟨σ, h1, h2, by omega, h4, h5, h6⟩
theorem Rn2.doneCell {κ0 : Nat → Nat} {w0 : World} {κ : Nat → Nat} {p d : Nat} {t : Nat → Nat} {ks : List Kd} {L0 : Nat → Int} {dk : Nat → Nat} {B n0 a i M cA mu : Nat} {wB w : World} {qs : List TdS} {gs : List Nat} {ms : List MaS} {m : MaS} {As : Option Addr} (h : Rn2 κ0 w0 κ p d t ks L0 dk B n0 wB qs gs M As cA a mu ms w) (hi : ms[i]? = some m) : w.cell? ⟨gs.getD i 0, 11, none⟩ = some (.bool m.done) ∧ gs.getD i 0 < w.heap.size := by
  obtain ⟨σ, h1, h2, h3, h4, h5, h6⟩ := h
  obtain ⟨⟨A, c, hC, _⟩, _⟩ := h1.mm i m hi
  exact ⟨hC.cell 11, hC.lt⟩
/-- The inner loop of the last one: x machines have been stepped; is one of them left? -/
def Rn4 (κ0 : Nat → Nat) (w0 : World) (κ : Nat → Nat) (p d : Nat) (t : Nat → Nat) (ks : List Kd) (L0 : Nat → Int) (dk : Nat → Nat) (B n0 : Nat) (wB : World) (qs : List TdS) (gs : List Nat) (M : Nat) (As : Option Addr) (cA a mu x : Nat) (lb : Bool) (wr : World) : Prop :=
  ∃ ms, Rn2 κ0 w0 κ p d t ks L0 dk B n0 wB qs gs M As cA a mu ms wr ∧ (lb = true → 1 ≤ mu ∧ Rn2 κ0 w0 κ p d t ks L0 dk B n0 wB qs gs M As cA a (mu - 1) ms wr) ∧ (lb = false → ∀ (i : Nat) (m : MaS), i < x → ms[i]? = some m → m.done = true)
def Rn4P (κ0 : Nat → Nat) (w0 : World) (κ : Nat → Nat) (p d : Nat) (t : Nat → Nat) (ks : List Kd) (L0 : Nat → Int) (dk : Nat → Nat) (B n0 : Nat) (wB : World) (qs : List TdS) (gs : List Nat) (M : Nat) (As : Option Addr) (cA a mu x : Nat) (lb : Bool) (e : Ending) (w' : World) : Prop :=
  e = .returned (.tuple #[]) ∧ ∃ dn, w'.cell? ⟨gs.getD x 0, 11, none⟩ = some (.bool dn) ∧ gs.getD x 0 < w'.heap.size ∧ Rn4 κ0 w0 κ p d t ks L0 dk B n0 wB qs gs M As cA (a + 1) mu (x + 1) (lb || !dn) w'
theorem Rn4.step {κ0 : Nat → Nat} {w0 : World} {κ : Nat → Nat} {p d : Nat} {t : Nat → Nat} {ks : List Kd} {L0 : Nat → Int} {dk : Nat → Nat} {B n0 a x M cA mu : Nat} {wB w : World} {qs : List TdS} {gs : List Nat} {As : Option Addr} {lb : Bool} (h : Rn4 κ0 w0 κ p d t ks L0 dk B n0 wB qs gs M As cA a mu x lb w) (hB : B + a < 1000000) (hi : x < M) (hO : ∀ b, OwnB As b → κ b = 9) (hkb : ∀ b, b < n0 → κ b = 1) :
    Calls Tryz.prog 28 #[.pointer (some ⟨gs.getD x 0, 0, none⟩), .int .i64 (a : Int)] w (Rn4P κ0 w0 κ p d t ks L0 dk B n0 wB qs gs M As cA a mu x lb) := by
  obtain ⟨ms, h1, h2, h3⟩ := h
  cases lb with
  | true =>
    obtain ⟨hmu, h2⟩ := h2 rfl
    refine (h2.step hB hi hO hkb).mono ?_
    rintro e w' ⟨rfl, m, m', g1, g2, g3, g4⟩
    have hx : (ms.set x m')[x]? = some m' := get_set_self g1
    obtain ⟨c1, c2⟩ := g3.doneCell hx
    exact ⟨rfl, m'.done, c1, c2, ms.set x m', g3.mono (by omega), fun _ => ⟨hmu, g3⟩, fun hx => by simp at hx⟩
  | false =>
    refine (h1.step hB hi hO hkb).mono ?_
    rintro e w' ⟨rfl, m, m', g1, g2, g3, g4⟩
    have hx : (ms.set x m')[x]? = some m' := get_set_self g1
    obtain ⟨c1, c2⟩ := g3.doneCell hx
    refine ⟨rfl, m'.done, c1, c2, ms.set x m', g3, fun hd => ?_, fun hd i mi hix hmi => ?_⟩
    · refine g4 ?_
      cases hmd : m.done with
      | false => rfl
      | true => rw [g2 hmd] at hd; simp at hd
    · rcases get_set_cases g1 hmi with ⟨e1, e2⟩ | ⟨e1, e2⟩
      · rw [e2]; simpa using hd
      · exact h3 rfl i mi (by omega) e2
/-- What a run leaves. -/
def RnPost (κ0 : Nat → Nat) (w0 : World) (p d : Nat) (t : Nat → Nat) (L0 : Nat → Int) (B n0 : Nat) (wB : World) (cs : List (Int × Int × List (Int × Int × Int))) (fin : Bool) (e : Ending) (w' : World) : Prop :=
  ∃ κ dk ks gs σ ms As cA a, e = .returned (.tuple #[.slice As ms.length cA, .bool true]) ∧ ms.length = min cs.length 3 ∧ RunS κ p d t ks L0 dk B (qsOf (cs.take ms.length)) gs w' σ ms a ∧ gs.length = ms.length ∧ (a ≤ if fin then 8000 else 300) ∧ Sl 49 1 w' As ms.length cA (gs.map ptrV) ∧ (∀ b, OwnB As b → κ b = 9) ∧
    (fin = true → ∀ (i : Nat) (m : MaS), ms[i]? = some m → m.done = true) ∧ Below n0 wB w' ∧ n0 ≤ w'.heap.size ∧ (∀ b, b < n0 → κ b = 1) ∧ Kp κ0 w0 κ w'
set_option maxRecDepth 100000 in
set_option maxHeartbeats 16000000 in
theorem run17K {p d : Nat} {t : Nat → Nat} {L0 : Nat → Int} {dk0 : Nat → Nat} {B n0 : Nat} {wB w : World} {σ0 : PwS} {κ0 : Nat → Nat} (hB : B ≤ 900000) (H : BegS κ0 p d t L0 dk0 B n0 wB [] [] w σ0 []) (A : Option Addr) (n c : Nat) (cs : List (Int × Int × List (Int × Int × Int))) (hn : n < 9223372036854775808) (hLC : ∀ W, Below n0 wB W → (∀ b, κ0 b = 1 → W.heap[b]? = w.heap[b]?) → LcV W A n c cs) (hLW : LcW cs)
    (Ap : Option Addr) (np cp : Nat) (ps : List Int) (hps : ps.length = np) (hnp : np < 9223372036854775808) (hPK : ∀ W, Below n0 wB W → Rd .i64 W Ap ps) (hpr : ∀ z ∈ ps, -9223372036854775808 ≤ z ∧ z < 9223372036854775808) (fin : Bool) :
    Calls Tryz.prog 23 #[.pointer (some ⟨p, 0, none⟩), .slice A n c, .slice Ap np cp, .bool fin] w (RnPost κ0 w p d t L0 B n0 wB cs fin) := by
  have HLC := Lib.hid hLC
  have HLW := Lib.hid hLW
  have HPK := Lib.hid hPK
  have HPR := Lib.hid hpr
  have HPS := Lib.hid hps
  have HCL : Hid (cs.length = n) := (hLC w H.bl (fun _ _ => rfl)).1
  have HR0 : Hid (Rn1 κ0 w p d t L0 B n0 wB cs 0 none 0 w) := ⟨κ0, dk0, [], σ0, [], H, rfl, Sl.nil, by simp [OwnB], fun b hb => ⟨hb, rfl⟩⟩
  clear H hLC hLW hPK hpr hps
  go_enter Tryz.func23, Tryz.ntmps23
  go_upto_region 2 with (fail)
  iterate 7 go_step
  go_cut [10, 8, 9, 11, 12, 13] from 20 (fun s _ _ _ _ _ wx => ∃ (j : Nat) (As : Option Addr) (cA : Nat), s = .slice As j cA ∧ j = min n 3 ∧ Rn1 κ0 w p d t L0 B n0 wB cs j As cA wx)
  case first =>
    refine wp_block ?_
    go_loopw [11, 10, 8, 9, 12, 13, 20, 21, 22, 23, 24, 25, 26, 27, 28, 29, 30, 31, 32, 33, 34, 35, 36, 37, 38, 39, 40, 41, 42, 43, 44] (fun i s _ _ _ _ _ _ _ _ _ _ _ _ _ _ _ _ _ _ _ _ _ _ _ _ _ _ _ _ _ wr => ∃ (j : Nat) (As : Option Addr) (cA : Nat), j ≤ n ∧ j ≤ 3 ∧ i = .int .i64 j ∧ s = .slice As j cA ∧ Rn1 κ0 w p d t L0 B n0 wB cs j As cA wr) (fun i s _ _ _ _ _ _ _ _ _ _ _ _ _ _ _ _ _ _ _ _ _ _ _ _ _ _ _ _ _ _ => 3 - (intOf i).toNat)
    case atStart => exact ⟨0, none, 0, by omega, by omega, rfl, rfl, HR0.out⟩
    case round =>
      clear HR0
      obtain ⟨j, As, cA, hj, hj3, rfl, rfl, κ, dk, gs, σ, ms, hBe, hml, hSl, hOw, hKp⟩ := hrel
      have HBE := Lib.hid hBe
      have HML := Lib.hid hml
      have HSL := Lib.hid hSl
      have HOW := Lib.hid hOw
      have HKP := Lib.hid hKp
      by_cases hgo : j < n ∧ j < 3
      · obtain ⟨hlt, hlt3⟩ := hgo
        have hlt' : (j : Int) < (n : Int) := by omega
        have hlt3' : (j : Int) < 3 := by omega
        have hjc : j < cs.length := by rw [HCL.out]; exact hlt
        obtain ⟨g2, o2, A', n', c', hA, hgl, hn', t0, t1, t2, hRi⟩ := (HLC.out wr hBe.bl (fun b hb => (hKp b hb).2)).2.2 j hlt
        have hLW := HLW.out _ (getD_mem cs C0 hjc)
        have HQS := Lib.hid (qsOf_succ cs hjc)
        obtain ⟨kf, hkf⟩ := hBe.bz.room (by omega)
        obtain ⟨N, xs, hI, hN⟩ := hBe.ex
        have HBG : Hid (Calls Tryz.prog 63 #[.pointer (some ⟨p, 0, none⟩), .agg #[.int .i64 (cs.getD j C0).1, .int .i64 (cs.getD j C0).2.1, .slice A' n' c']] wr fun e w' => ∃ g κ' dk' σ' m, e = .returned (.tuple #[.pointer (some ⟨g, 0, none⟩), .bool true]) ∧ BegS κ' p d t L0 dk' B n0 wB (qsOf (cs.take (j + 1))) (gs ++ [g]) w' σ' (ms ++ [m]) ∧ (∀ b, κ b ≠ 0 → κ' b = κ b) ∧ (∀ b, κ' b = 9 → κ b = 9) ∧ Ch (fun b => κ b = 0) wr w') := by
          rw [HQS.out]
          exact (mcBegin hBe.pm hI.on.err hkf (by rw [hBe.bz.len]; omega) _ _ hLW.1 hLW.2.1 A' n' c' _ hRi hn' hLW.2.2).mono (fun e w' hP => hBe.add (by omega) hkf (qOf_ok _) hP)
        obtain ⟨cj, hcj⟩ : ∃ cj, cs.getD j C0 = cj := ⟨_, rfl⟩
        rw [hcj] at HBG t0 t1
        obtain ⟨ct, cw, cl⟩ := cj
        dsimp only at HBG t0 t1
        subst hA
        clear hBe hml hSl hOw hKp hRi hLW hkf hI hN hcj hn' HQS
        go_wp2_with (first
          | (go_at_call 63; refine HBG.out.mono ?_; rintro e w1 ⟨g, κ1, dk1, σ1, m1, rfl, hB1, hk1, hk9, hCh1⟩; have HB1 := Lib.hid hB1; have HK1 := Lib.hid hk1; have HCH := Lib.hid hCh1; have HKP1 : Hid (Kp κ0 w κ1 w1) := (fun b hb => by obtain ⟨k1, k2⟩ := HKP.out b hb; exact ⟨(hk1 b (by omega)).trans k1, (hCh1.block b (HBE.out.pm.lk (K := fun b => κ b ≠ 0) (by omega)) (fun hx => by rw [k1] at hx; cases hx)).trans k2⟩); have HS1 : Hid (Sl 49 1 w1 As j cA (gs.map ptrV)) := HSL.out.keep (fun b hb => hCh1.block b (HSL.out.lt hb) (fun hx => by rw [HOW.out b hb] at hx; cases hx)); clear hB1 hk1 hk9 hCh1)
          | (at_builtin; refine wpList_append_sl rfl (.tmp 41) (.tmp 43) 46 rfl 49 (.pointer none) 1 8 rfl (by omega) Tryz.underlying46 info_pMachine (by omega) As j cA (gs.map ptrV) ⟨w1.heap.size, 0, none⟩ 1 1 [.pointer (some ⟨g, 0, none⟩)] rfl rfl (HS1.out.keep (fun b hb => Below.heap_alloc _ _ _ (HS1.out.lt hb))) rfl (by omega) (cells_one17 w1 49 _) (by simp; rfl) (by omega) ?_; intro A4 c4 w4 HO4 HC4 HW4 HG4))
        refine ⟨⟨j + 1, A4, c4, by omega, by omega, by go_num, rfl, Rn1.app HB1.out (by rw [List.length_append, HML.out]; rfl) _ (fun b hb => ?_) HKP1.out HC4.out ?_ HW4.out⟩, by simp [intOf]; omega⟩
        · rw [HK1.out b (by rw [HOW.out b hb]; omega)]; exact HOW.out b hb
        · rw [List.map_append]; exact HO4.out
      · have HR1 : Hid (Rn1 κ0 w p d t L0 B n0 wB cs j As cA wr) := ⟨κ, dk, gs, σ, ms, HBE.out, HML.out, HSL.out, HOW.out, HKP.out⟩
        have hmin : j = min n 3 := by omega
        have HMIN := Lib.hid hmin
        clear hBe hml hSl hOw hKp HBE HML HSL HOW HKP hmin
        by_cases hlt : j < n
        · have hlt' : (j : Int) < (n : Int) := by omega
          have hlt3' : ¬ (j : Int) < 3 := by omega
          go_wp2
          go_meet
          case rel => exact ⟨j, As, cA, rfl, HMIN.out, HR1.out⟩
        · have hlt' : ¬ (j : Int) < (n : Int) := by omega
          go_wp2
          go_meet
          case rel => exact ⟨j, As, cA, rfl, HMIN.out, HR1.out⟩
  case rest =>
    clear HR0
    obtain ⟨M, As, cA, rfl, hM, κ, dk, gs, σ, ms, hBe, hml, hSl, hOw, hKp⟩ := hcut
    obtain ⟨N, xs, hI, hN⟩ := hBe.ex
    obtain ⟨ks, hks⟩ : ∃ ks, ms.map (·.kd) = ks := ⟨_, rfl⟩
    obtain ⟨qs, hqs⟩ : ∃ qs, qsOf (cs.take M) = qs := ⟨_, rfl⟩
    have hrun := hBe.run
    rw [hks, hqs] at hrun
    have HQS := Lib.hid hqs
    have hl3 := hBe.l3
    have hM3 : M ≤ 3 := by omega
    have HGL : Hid (gs.length = M) := hBe.lg.trans hml
    have HKB := Lib.hid hBe.kb
    have HOW := Lib.hid hOw
    have HMIN := Lib.hid hM
    have HN2 : Hid (Rn2 κ0 w κ p d t ks L0 dk B n0 wB qs gs M As cA 0 2316 ms wc) := ⟨σ, hrun, hml, muS_le hI hl3, hSl, hBe.bl, hBe.nl, hKp⟩
    clear hBe hml hSl hOw hKp hI hN hks hqs hrun hl3 hM
    go_upto_region 10 with (fail)
    iterate 7 go_step
    go_cut [14, 15] from 45 (fun a _ wx => ∃ (q : Nat) (ms : List MaS), a = .int .i64 q ∧ q ≤ 300 ∧ Rn2 κ0 w κ p d t ks L0 dk B n0 wB qs gs M As cA q 2316 ms wx)
    case first =>
      refine wp_block ?_
      go_loopw [15, 14, 45, 46, 47, 48, 49, 50, 51, 52, 53, 54, 55, 56, 57, 58, 59, 60, 61, 62, 63, 64, 65, 66, 67, 68, 69, 70, 71, 72, 73] (fun i a _ _ _ _ _ _ _ _ _ _ _ _ _ _ _ _ _ _ _ _ _ _ _ _ _ _ _ _ _ wr => ∃ (q : Nat) (ms : List MaS), q ≤ np ∧ q ≤ 300 ∧ i = .int .i64 q ∧ a = .int .i64 q ∧ Rn2 κ0 w κ p d t ks L0 dk B n0 wB qs gs M As cA q 2316 ms wr) (fun i a _ _ _ _ _ _ _ _ _ _ _ _ _ _ _ _ _ _ _ _ _ _ _ _ _ _ _ _ _ _ => 300 - (intOf i).toNat)
      case atStart => exact ⟨0, ms, by omega, by omega, rfl, rfl, HN2.out⟩
      case round =>
        clear HN2
        obtain ⟨q, ms, hq, hq3, rfl, rfl, hR⟩ := hrel
        have HR := Lib.hid hR
        by_cases hqn : q < np
        · have hqn' : (q : Int) < (np : Int) := by omega
          by_cases hq300 : q < 300
          · have hq300' : (q : Int) < 300 := by omega
            by_cases hM0 : 0 < M
            · have hM0' : (M : Int) > 0 := by omega
              have hM0'' : 0 < (M : Int) := by omega
              obtain ⟨gp, op, hAp, hgp, hcp⟩ := (HPK.out wr (by obtain ⟨_, _, _, _, _, h5, _⟩ := hR; exact h5)).at_ (i := q) (by rw [HPS.out]; exact hqn)
              have hpr := HPR.out _ (List.getElem_mem (by rw [HPS.out]; exact hqn : q < ps.length))
              obtain ⟨z, hz⟩ : ∃ z, ps[q]'(by rw [HPS.out]; exact hqn) = z := ⟨_, rfl⟩
              rw [hz] at hcp hpr
              obtain ⟨x, hx⟩ : ∃ x : Nat, z % (M : Int) = x ∧ x < M := ⟨(z % (M : Int)).toNat, by have := Int.emod_nonneg z (show (M : Int) ≠ 0 by omega); omega, by have := Int.emod_lt_of_pos z (show (0 : Int) < M by omega); have := Int.emod_nonneg z (show (M : Int) ≠ 0 by omega); omega⟩
              have HMD : Hid (∀ W, Calls Tryz.prog 27 #[.int .i64 z, .int .i64 (M : Int)] W fun r w' => r = .returned (.int .i64 (x : Int)) ∧ W = w') := fun W => by rw [← hx.1]; exact mod17 W z hpr M (by omega)
              have hxM : (x : Int) < (M : Int) := by omega
              obtain ⟨gS, oS, hAS, hgS, hcS⟩ := hR.cell hx.2
              have HST := Lib.hid (hR.step (by omega) hx.2 HOW.out HKB.out)
              subst hAp
              clear hR hz hx hpr
              have HAS := Lib.hid hAS
              rw [hAS]
              clear hAS
              go_wp2_with (first
                | (go_at_call 27; refine (HMD.out _).mono ?_; rintro e w' ⟨rfl, rfl⟩)
                | (go_at_call 28; refine HST.out.mono ?_; rintro e w2 ⟨rfl, m, m', hm1, hm2, hR2, hm3⟩; have HR2 := Lib.hid hR2; clear hm1 hm2 hm3 hR2))
              exact ⟨⟨q + 1, _, by omega, by omega, by go_num, by go_num, by rw [← HAS.out]; exact HR2.out⟩, by simp [intOf]; omega⟩
            · have hM0' : ¬ (M : Int) > 0 := by omega
              have hM0'' : ¬ 0 < (M : Int) := by omega
              clear hR
              go_wp2
              go_meet
              case rel => exact ⟨q, ms, rfl, hq3, HR.out⟩
          · have hq300' : ¬ (q : Int) < 300 := by omega
            clear hR
            go_wp2
            go_meet
            case rel => exact ⟨q, ms, rfl, hq3, HR.out⟩
        · have hqn' : ¬ (q : Int) < (np : Int) := by omega
          clear hR
          go_wp2
          go_meet
          case rel => exact ⟨q, ms, rfl, hq3, HR.out⟩
    case rest =>
      clear HN2
      obtain ⟨q, ms1, rfl, hq, hR⟩ := hcut
      have HR := Lib.hid hR
      have HPOST : Hid (∀ (W : World) (a : Nat) (ms : List MaS) (σ : PwS), (a ≤ if fin then 8000 else 300) → RunS κ p d t ks L0 dk B qs gs W σ ms a → ms.length = M → Sl 49 1 W As M cA (gs.map ptrV) → Below n0 wB W → n0 ≤ W.heap.size → Kp κ0 w κ W → (fin = true → ∀ (i : Nat) (m : MaS), ms[i]? = some m → m.done = true) → RnPost κ0 w p d t L0 B n0 wB cs fin (.returned (.tuple #[.slice As M cA, .bool true])) W) := fun W a ms σ h0 h1 h2 h3 h4 h5 h7 h6 => by
        refine ⟨κ, dk, ks, gs, σ, ms, As, cA, a, by rw [h2], by rw [h2, HCL.out]; exact HMIN.out, by rw [h2, HQS.out]; exact h1, by rw [h2]; exact HGL.out, h0, by rw [h2]; exact h3, HOW.out, h6, h4, h5, HKB.out, h7⟩
      clear hR
      cases fin with
      | false =>
        go_wp2
        refine wp_loop_rounds 1 ?_
        rw [rounds_succ]
        go_wp2
        obtain ⟨σ, h1, h2, h3, h4, h5, h6, h7⟩ := HR.out
        exact bodyPost_ret (v := .tuple #[.slice As M cA, .bool true]) (by simp [results, Tryz.results23, go_sem]) rfl (HPOST.out _ q ms1 σ (by simp; omega) h1 h2 h4 h5 h6 h7 (fun hx => by first | cases hx | simp at hx))
      | true =>
        go_wp2
        go_loopw [16, 14, 8, 9, 17, 19, 74, 75, 76, 77, 78, 79, 80, 81, 82, 83, 84, 85, 86, 87, 88, 89, 90, 91, 92, 93, 94, 95, 96, 97, 98, 99, 100, 101, 102, 103] (fun i a _ _ _ _ _ _ _ _ _ _ _ _ _ _ _ _ _ _ _ _ _ _ _ _ _ _ _ _ _ _ _ _ _ _ wr => ∃ (j a' : Nat) (ms : List MaS), i = .int .i64 j ∧ a = .int .i64 a' ∧ j ≤ 2316 ∧ a' ≤ 300 + 3 * j ∧ Rn2 κ0 w κ p d t ks L0 dk B n0 wB qs gs M As cA a' (2316 - j) ms wr) (fun i a _ _ _ _ _ _ _ _ _ _ _ _ _ _ _ _ _ _ _ _ _ _ _ _ _ _ _ _ _ _ _ _ _ _ _ => 60000 - (intOf i).toNat)
        case atStart => exact ⟨0, q, ms1, rfl, rfl, by omega, by omega, HR.out⟩
        case round =>
          clear HR
          obtain ⟨j, a, ms, rfl, rfl, hj, ha, hR⟩ := hrel
          have HR := Lib.hid hR
          have hj6 : (j : Int) < 60000 := by omega
          obtain ⟨wz, hwz⟩ : ∃ wz, wz = wr := ⟨wr, rfl⟩
          rw [← hwz] at HR ⊢
          clear hR hwz
          go_wp2
          go_loopw [83, 14, 17, 19, 84, 85, 86, 87, 88, 89, 90, 91, 92, 93, 94, 95, 96, 97, 98, 99, 100] (fun i a' l _ _ _ _ _ _ _ _ _ _ _ _ _ _ _ _ _ _ wr => ∃ (x a2 : Nat) (lb : Bool), i = .int .i64 x ∧ x ≤ M ∧ a' = .int .i64 a2 ∧ a2 ≤ 300 + 3 * j + x ∧ l = .bool lb ∧ Rn4 κ0 w κ p d t ks L0 dk B n0 wB qs gs M As cA a2 (2316 - j) x lb wr) (fun i a l _ _ _ _ _ _ _ _ _ _ _ _ _ _ _ _ _ _ _ => M - (intOf i).toNat)
          case atStart => exact ⟨0, a, false, rfl, by omega, rfl, by omega, rfl, ms, HR.out, fun hx => (by cases hx), fun _ i m hi => by omega⟩
          case round =>
            clear HR
            obtain ⟨x, a2, lb, rfl, hx, rfl, ha2, rfl, hR⟩ := hrel
            have HR := Lib.hid hR
            by_cases hxM : x < M
            · have hxM' : (x : Int) < (M : Int) := by omega
              obtain ⟨gS, oS, hAS, hgS, hcS⟩ := hR.choose_spec.1.cell hxM
              have HST := Lib.hid (hR.step (by omega) hxM HOW.out HKB.out)
              clear hR
              have HAS := Lib.hid hAS
              rw [hAS]
              obtain ⟨gx, hgx⟩ : ∃ gx, gs.getD x 0 = gx := ⟨_, rfl⟩
              rw [hgx] at hcS HST
              have HGX := Lib.hid hgx
              clear hAS hgx
              cases lb with
              | true =>
                go_wp2_with (go_at_call 28; refine HST.out.mono ?_; rintro e w2 ⟨rfl, dn, hc11, hgl11, hR2⟩; rw [HGX.out] at hc11 hgl11; have HR2 := Lib.hid hR2; clear hR2)
                exact ⟨⟨x + 1, a2 + 1, true, by go_num, by omega, by go_num, by omega, rfl, by rw [← HAS.out]; exact HR2.out⟩, by simp [intOf]; omega⟩
              | false =>
                go_wp2_with (go_at_call 28; refine HST.out.mono ?_; rintro e w2 ⟨rfl, dn, hc11, hgl11, hR2⟩; rw [HGX.out] at hc11 hgl11; have HR2 := Lib.hid hR2; clear hR2)
                exact ⟨⟨x + 1, a2 + 1, !dn, by go_num, by omega, by go_num, by omega, rfl, by rw [← HAS.out]; exact HR2.out⟩, by simp [intOf]; omega⟩
            · obtain rfl : x = M := by omega
              cases lb with
              | true =>
                clear hR
                obtain ⟨ms2, h1, h2, h3⟩ := HR.out
                obtain ⟨h2a, h2b⟩ := h2 rfl
                have H2 : Hid (Rn2 κ0 w κ p d t ks L0 dk B n0 wB qs gs x As cA a2 (2316 - (j + 1)) ms2 wr) := h2b
                have hj2 : j + 1 ≤ 2316 := by omega
                clear h1 h2 h3 h2a h2b
                go_wp2
                exact ⟨⟨j + 1, a2, ms2, by go_num, rfl, hj2, by omega, H2.out⟩, by simp [intOf]; omega⟩
              | false =>
                clear hR
                obtain ⟨ms2, ⟨σ, h1, h2, h3, h4, h5, h6, h7⟩, _, hd⟩ := HR.out
                have HX := Lib.hid (HPOST.out wr a2 ms2 σ (by simp; omega) h1 h2 h4 h5 h6 h7 (fun _ i m hi => hd rfl i m (by have := (List.getElem?_eq_some_iff.1 hi).1; omega) hi))
                clear h1 h2 h3 h4 h5 h6 h7 hd
                go_wp2
                exact bodyPost_ret (v := .tuple #[.slice As x cA, .bool true]) (by simp [results, Tryz.results23, go_sem]) rfl HX.out
theorem run17 {p d : Nat} {t : Nat → Nat} {L0 : Nat → Int} {dk0 : Nat → Nat} {B n0 : Nat} {wB w : World} {σ0 : PwS} {κ0 : Nat → Nat} (hB : B ≤ 900000) (H : BegS κ0 p d t L0 dk0 B n0 wB [] [] w σ0 []) (A : Option Addr) (n c : Nat) (cs : List (Int × Int × List (Int × Int × Int))) (hn : n < 9223372036854775808) (hLC : ∀ W, Below n0 wB W → LcV W A n c cs) (hLW : LcW cs)
    (Ap : Option Addr) (np cp : Nat) (ps : List Int) (hps : ps.length = np) (hnp : np < 9223372036854775808) (hPK : ∀ W, Below n0 wB W → Rd .i64 W Ap ps) (hpr : ∀ z ∈ ps, -9223372036854775808 ≤ z ∧ z < 9223372036854775808) (fin : Bool) :
    Calls Tryz.prog 23 #[.pointer (some ⟨p, 0, none⟩), .slice A n c, .slice Ap np cp, .bool fin] w (RnPost κ0 w p d t L0 B n0 wB cs fin) :=
  run17K hB H A n c cs hn (fun W h _ => hLC W h) hLW Ap np cp ps hps hnp hPK hpr fin
end Go.Proofs.YtjaohgnloddgfaaGreatDoor

namespace Go.Proofs.YtjaohgnloddgfaaGreatDoor
open Go.RowKit
set_option linter.unusedVariables false

theorem plain_addr {W : World} {a : Addr} {v : Value} (h : W.cell? a = some v) : ∃ b off, a = ⟨b, off, none⟩ ∧ b < W.heap.size := by
  have hlt := World.block_lt_of_cell? W a h
  obtain ⟨b, off, sp⟩ := a
  have hsp : sp = none := by
    cases sp with
    | none => rfl
    | some s =>
      unfold World.cell? at h
      split at h <;> simp at h
  subst hsp
  exact ⟨b, off, rfl, hlt⟩
theorem add_plain (b off i : Nat) : (⟨b, off, none⟩ : Addr).add i = ⟨b, off + i, none⟩ := by unfold Addr.add; split <;> simp_all
theorem getD_map_range {α : Type} (q : Nat → α) (d : α) {n k : Nat} (h : k < n) : ((List.range n).map q).getD k d = q k := by
  rw [List.getD_eq_getElem?_getD, List.getElem?_map, List.getElem?_range h]; rfl
/-- Entries of the reference that came in. -/
theorem isRi_of {P : Program} {H : Type} {enc : TypeId × Value → H} {W : World} {fuel : Nat} {v : Value} {x : DataW H × List MemPlace} {t e : TypeId} {f0 f1 f2 : Field}
    (ht : P.underlying t = some (.slice e)) (he : P.underlying e = some (.struct #[f0, f1, f2])) (ce : P.cellsOf e = 3) (o0 : f0.offset = 0) (o1 : f1.offset = 1) (o2 : f2.offset = 2)
    (c0 : P.cellsOf f0.type = 1) (c1 : P.cellsOf f1.type = 1) (c2 : P.cellsOf f2.type = 1) (u0 : P.underlying f0.type = some (.int .i64)) (u1 : P.underlying f1.type = some (.int .u64)) (u2 : P.underlying f2.type = some (.int .u64))
    (h : DataW.trod enc P W 0 (fun _ => true) true fuel t [v] = some x) : ∃ A n c l, v = .slice A n c ∧ RiV W A n c l ∧ RiW l ∧ n < 9223372036854775808 := by
  rcases Go.Deep.open_slice ht h with ⟨hcs, _⟩ | ⟨a, l, c, m, n, D, Pl, hcs, hb, hl, hm, hmm, _, hx⟩
  · simp only [List.cons.injEq, and_true] at hcs
    exact ⟨none, 0, 0, [], hcs, ⟨rfl, Nat.le_refl _, fun k h => by omega⟩, fun e he => by simp at he, by omega⟩
  · simp only [List.cons.injEq, and_true] at hcs
    simp only [if_true] at hmm
    have each : ∀ i, i < m → ∃ p : Int × Int × Int, W.cell? (a.add (i * 3)) = some (.int .i64 p.1) ∧ W.cell? (a.add (i * 3 + 1)) = some (.int .u64 p.2.1) ∧ W.cell? (a.add (i * 3 + 2)) = some (.int .u64 p.2.2) ∧
        (-9223372036854775808 ≤ p.1 ∧ p.1 < 9223372036854775808) ∧ (0 ≤ p.2.1 ∧ p.2.1 < 18446744073709551616) ∧ 0 ≤ p.2.2 ∧ p.2.2 < 18446744073709551616 := by
      intro i hi
      obtain ⟨cs', h1, h2⟩ := hx i hi
      rw [ce] at h1
      obtain ⟨_, hlen, hcell⟩ := World.cells?_some h1
      obtain ⟨xs, k, hk, hxy, _, hxl, hf⟩ := DataW.trod_struct he h2
      match xs, hxl, cs', hlen with
      | [y0, y1, y2], _, [v0, v1, v2], _ =>
        have g0 := hf 0 f0 rfl
        have g1 := hf 1 f1 rfl
        have g2 := hf 2 f2 rfl
        simp [o0, o1, o2, c0, c1, c2] at g0 g1 g2
        have e0 := hcell 0 (by omega)
        have e1 := hcell 1 (by omega)
        have e2 := hcell 2 (by omega)
        rw [Go.Deep.add_add] at e0 e1 e2
        obtain ⟨z0, q0, _, r0⟩ := DataW.trod_int u0 g0
        obtain ⟨z1, q1, _, r1⟩ := DataW.trod_int u1 g1
        obtain ⟨z2, q2, _, r2⟩ := DataW.trod_int u2 g2
        simp only [List.cons.injEq, and_true] at q0 q1 q2
        subst q0 q1 q2
        have := wf_i64 r0
        exact ⟨⟨z0, z1, z2⟩, by simpa using e0, by simpa using e1, by simpa using e2, by omega, wf_u64 r1, (wf_u64 r2).1, (wf_u64 r2).2⟩
    obtain ⟨q, hq⟩ := Go.Deep.choose_lt each
    refine ⟨some a, l, c, (List.range l).map q, hcs, ⟨by simp, hl, fun k hk => ?_⟩, fun e he => ?_, by unfold maxLen at hm; omega⟩
    · obtain ⟨e0, e1, e2, _⟩ := hq k (by omega)
      have h00 := (hq 0 (by omega)).1
      rw [show a.add (0 * 3) = a by simp [Addr.add]] at h00
      obtain ⟨b, off, rfl, hlt⟩ := plain_addr h00
      rw [add_plain] at e0 e1 e2
      rw [getD_map_range q (0, 0, 0) hk]
      refine ⟨b, off, rfl, hlt, e0, ?_, ?_⟩
      · rw [← Nat.add_assoc] at e1; exact e1
      · rw [← Nat.add_assoc] at e2; exact e2
    · obtain ⟨k, hk, rfl⟩ := List.mem_map.1 he
      have hk' : k < l := by simpa using hk
      obtain ⟨_, _, _, r0, r1, r2⟩ := hq k (by omega)
      exact ⟨r0, r1, r2⟩
/-- Calls that came in. -/
def IsCalls (w : World) (A : Option Addr) (len cap : Nat) (cs : List (Int × Int × List (Int × Int × Int))) : Prop := LcV w A len cap cs ∧ LcW cs ∧ len < 9223372036854775808 ∧ cap ≤ 9223372036854775807
theorem isCalls_of {P : Program} {H : Type} {enc : TypeId × Value → H} {W : World} {fuel : Nat} {A : Option Addr} {len cap : Nat} {x : DataW H × List MemPlace} {t e t2 e2 : TypeId} {f0 f1 f2 k0 k1 k2 : Field}
    (ht : P.underlying t = some (.slice e)) (he : P.underlying e = some (.struct #[f0, f1, f2])) (ce : P.cellsOf e = 3) (o0 : f0.offset = 0) (o1 : f1.offset = 1) (o2 : f2.offset = 2)
    (c0 : P.cellsOf f0.type = 1) (c1 : P.cellsOf f1.type = 1) (c2 : P.cellsOf f2.type = 1) (u0 : P.underlying f0.type = some (.int .i64)) (u1 : P.underlying f1.type = some (.int .i64)) (u2 : P.underlying f2.type = some (.slice e2))
    (he2 : P.underlying e2 = some (.struct #[k0, k1, k2])) (ce2 : P.cellsOf e2 = 3) (p0 : k0.offset = 0) (p1 : k1.offset = 1) (p2 : k2.offset = 2) (d0 : P.cellsOf k0.type = 1) (d1 : P.cellsOf k1.type = 1) (d2 : P.cellsOf k2.type = 1)
    (w0 : P.underlying k0.type = some (.int .i64)) (w1 : P.underlying k1.type = some (.int .u64)) (w2 : P.underlying k2.type = some (.int .u64))
    (h : DataW.trod enc P W 0 (fun _ => true) true fuel t [.slice A len cap] = some x) : ∃ cs, IsCalls W A len cap cs := by
  rcases Go.Deep.open_slice ht h with ⟨hcs, _⟩ | ⟨a, l, c, m, n, D, Pl, hcs, hb, hl, hm, hmm, _, hx⟩
  · simp only [List.cons.injEq, Value.slice.injEq, and_true] at hcs
    obtain ⟨rfl, rfl, rfl⟩ := hcs
    exact ⟨[], ⟨rfl, Nat.le_refl _, fun k h => by omega⟩, fun e he => by simp at he, by omega, by omega⟩
  · simp only [List.cons.injEq, Value.slice.injEq, and_true] at hcs
    obtain ⟨rfl, rfl, rfl⟩ := hcs
    simp only [if_true] at hmm
    have each : ∀ i, i < m → ∃ p : Int × Int × List (Int × Int × Int), W.cell? (a.add (i * 3)) = some (.int .i64 p.1) ∧ W.cell? (a.add (i * 3 + 1)) = some (.int .i64 p.2.1) ∧ (∃ A' n' c', W.cell? (a.add (i * 3 + 2)) = some (.slice A' n' c') ∧ RiV W A' n' c' p.2.2 ∧ n' < 9223372036854775808) ∧
        (-9223372036854775808 ≤ p.1 ∧ p.1 < 9223372036854775808) ∧ (-9223372036854775808 ≤ p.2.1 ∧ p.2.1 < 9223372036854775808) ∧ RiW p.2.2 := by
      intro i hi
      obtain ⟨cs', h1, h2⟩ := hx i hi
      rw [ce] at h1
      obtain ⟨_, hlen, hcell⟩ := World.cells?_some h1
      obtain ⟨xs, k, hk, hxy, _, hxl, hf⟩ := DataW.trod_struct he h2
      match xs, hxl, cs', hlen with
      | [y0, y1, y2], _, [v0, v1, v2], _ =>
        have g0 := hf 0 f0 rfl
        have g1 := hf 1 f1 rfl
        have g2 := hf 2 f2 rfl
        simp [o0, o1, o2, c0, c1, c2] at g0 g1 g2
        have e0 := hcell 0 (by omega)
        have e1 := hcell 1 (by omega)
        have e2 := hcell 2 (by omega)
        rw [Go.Deep.add_add] at e0 e1 e2
        obtain ⟨z0, q0, _, r0⟩ := DataW.trod_int u0 g0
        obtain ⟨z1, q1, _, r1⟩ := DataW.trod_int u1 g1
        obtain ⟨A', n', c', l', rfl, hR, hW, hn⟩ := isRi_of u2 he2 ce2 p0 p1 p2 d0 d1 d2 w0 w1 w2 g2
        simp only [List.cons.injEq, and_true] at q0 q1
        subst q0 q1
        have := wf_i64 r0
        have := wf_i64 r1
        exact ⟨⟨z0, z1, l'⟩, by simpa using e0, by simpa using e1, ⟨A', n', c', by simpa using e2, hR, hn⟩, by omega, by omega, hW⟩
    obtain ⟨q, hq⟩ := Go.Deep.choose_lt each
    refine ⟨(List.range len).map q, ⟨by simp, hl, fun k hk => ?_⟩, fun e he => ?_, by unfold maxLen at hm; omega, by unfold maxLen at hm; omega⟩
    · obtain ⟨e0, e1, ⟨A', n', c', e2, hR, hn⟩, _⟩ := hq k (by omega)
      have h00 := (hq 0 (by omega)).1
      rw [show a.add (0 * 3) = a by simp [Addr.add]] at h00
      obtain ⟨b, off, rfl, hlt⟩ := plain_addr h00
      rw [add_plain] at e0 e1 e2
      rw [getD_map_range q C0 hk]
      refine ⟨b, off, A', n', c', rfl, hlt, hn, e0, ?_, ?_, hR⟩
      · rw [← Nat.add_assoc] at e1; exact e1
      · rw [← Nat.add_assoc] at e2; exact e2
    · obtain ⟨k, hk, rfl⟩ := List.mem_map.1 he
      have hk' : k < len := by simpa using hk
      obtain ⟨_, _, _, r0, r1, r2⟩ := hq k (by omega)
      exact ⟨r0, r1, r2⟩
end Go.Proofs.YtjaohgnloddgfaaGreatDoor
