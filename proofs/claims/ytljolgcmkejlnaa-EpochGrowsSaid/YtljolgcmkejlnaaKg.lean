/- A clock on an armed device, its crash, and the law EpochGrows (merged). -/
import Derived.Test.YtljolgcmkejlnaaClean
import Derived.Test.YtljolgcmkejlnaaKr
import Derived.Test.YtljolgcmkejlnaaDevV
import Derived.Test.YtljolgcmkejlnaaEpD
import Derived.Test.YtljolgcmkejlnaaEpC
import Derived.Test.YtljolgcmkejlnaaEpNil
import Derived.Test.YtljolgcmkejlnaaEpSame
import Derived.Test.YtljolgcmkejlnaaRowA
namespace Go.Proofs.Ytljolgcmkejlnaa
open Go.RowKit
set_option linter.unusedVariables false

theorem cnt_pers (S : DevS) (i : Nat) (b : Bool) : (S.cnt i b).pers = S.pers := by
  unfold DevS.cnt DevS.on DevS.fail DevS.setErr
  repeat' split
  all_goals rfl
theorem fail_all (S : DevS) (i : Nat) (e : Int) : (S.fail i e).pers = S.pers ∧ (S.fail i e).lns = S.lns ∧ (S.fail i e).off = S.off := by
  unfold DevS.fail DevS.setErr
  split <;> exact ⟨rfl, rfl, rfl⟩
/-- All words fit. -/
structure FitS (S : DevS) : Prop where
  pers : Fits S.pers
  hist : ∀ (q : Nat) (l : Ln), S.lns[q]? = some l → ∀ p ∈ l.hist, 0 ≤ p.2 ∧ p.2 < 18446744073709551616
section
variable {S S' : DevS}
theorem FitS.same (h : FitS S) (h1 : S'.pers = S.pers) (h2 : S'.lns = S.lns) : FitS S' := ⟨by rw [h1]; exact h.pers, by rw [h2]; exact h.hist⟩
theorem FitS.write (h : FitS S) (k : Nat) (v : Int) (hv : 0 ≤ v ∧ v < 18446744073709551616) : FitS (S.write k v) := by
  refine ⟨h.pers, fun q l hl p hp => ?_⟩
  simp only [DevS.write, List.getElem?_modify] at hl
  obtain ⟨l0, h0, h1⟩ := Option.map_eq_some_iff.1 hl
  split at h1
  · subst h1
    rcases List.mem_append.1 hp with hp | hp
    · exact h.hist q l0 h0 p hp
    · have : p = (8 * (k : Int), v) := by simpa using hp
      subst this; exact hv
  · have : l0 = l := by simpa using h1
    subst this; exact h.hist q l0 h0 p hp
theorem FitS.upto (h : FitS S) (K : Nat → Nat) : FitS (S.upto K) := by
  refine ⟨fun x hx => ?_, fun q l hl p hp => ?_⟩
  · obtain ⟨j, hj, rfl⟩ := List.getElem_of_mem hx
    have hj' : j < S.pers.length := by rwa [(length_upto _).1] at hj
    have h1 := upto_pers K j hj'
    rw [List.getElem?_eq_getElem hj] at h1
    have hf : Fits (applyW S.pers (((S.lns[j / 8]?.map (·.hist)).getD []).take (K (j / 8)))) := by
      refine fits_applyW _ (fun p hp => ?_) _ h.pers
      have hp := List.mem_of_mem_take hp
      cases hl : S.lns[j / 8]? with
      | none => rw [hl] at hp; simp at hp
      | some l => rw [hl] at hp; exact h.hist _ l hl p (by simpa using hp)
    exact hf _ (List.mem_of_getElem? h1.symm)
  · rw [upto_ln] at hl
    obtain ⟨l0, h0, rfl⟩ := Option.map_eq_some_iff.1 hl
    exact h.hist q l0 h0 p (List.mem_of_mem_drop hp)
theorem FitS.exec1 (h : FitS S) (i : Nat) (p : Ins) (hp : 0 ≤ p.2.2 ∧ p.2.2 < 18446744073709551616) : FitS (S.exec1 i p) := by
  have hc : ∀ b, FitS (S.cnt i b) := fun b => h.same (cnt_pers S i b) (cnt_lns S i b).1
  unfold DevS.exec1
  split
  · unfold DevS.store
    split
    · exact (hc _).write _ _ hp
    · exact hc _
  · split
    · unfold DevS.flush
      split
      · exact (hc _).same rfl rfl
      · exact hc _
    · unfold DevS.fence
      split
      · exact ((hc _).upto _).same rfl rfl
      · exact hc _
theorem FitS.runP (i : Nat) : ∀ (ps : List Ins) {S : DevS}, FitS S → (∀ p ∈ ps, 0 ≤ p.2.2 ∧ p.2.2 < 18446744073709551616) → FitS (S.runP i ps) := by
  intro ps
  induction ps with
  | nil => intro S h _; exact h
  | cons p ps ih => intro S h hp; exact ih (h.exec1 i p (hp p List.mem_cons_self)) (fun q hq => hp q (List.mem_cons_of_mem _ hq))
theorem cnt_off (ho : S.off = true) (i : Nat) (b : Bool) : S.cntB b = false ∧ S.cnt i b = S.fail i 3 := by
  simp [DevS.cntB, DevS.cnt, DevS.onB, DevS.on, ho]
/-- Without power nothing is executed. -/
theorem off_exec1 (ho : S.off = true) (i : Nat) (p : Ins) : (S.exec1 i p).off = true ∧ (S.exec1 i p).pers = S.pers ∧ (S.exec1 i p).lns = S.lns := by
  have hf := fail_all S i 3
  have hx : ∀ b, (S.cnt i b).off = true ∧ (S.cnt i b).pers = S.pers ∧ (S.cnt i b).lns = S.lns := fun b => by
    rw [(cnt_off ho i b).2]; exact ⟨hf.2.2.trans ho, hf.1, hf.2.1⟩
  unfold DevS.exec1 DevS.store DevS.flush DevS.fence
  simp only [(cnt_off ho i _).1, Bool.false_eq_true, if_false]
  split
  · exact hx _
  · split
    · exact hx _
    · exact hx _
theorem cnt_cut (ho : S.off = false) (ha : S.armed = true) (hl : S.left = 0) (i : Nat) : S.cntB true = false ∧ (S.cnt i true).off = true ∧ (S.cnt i true).pers = S.pers ∧ (S.cnt i true).lns = S.lns := by
  refine ⟨by simp [DevS.cntB, DevS.onB, ho, ha, hl], ?_, cnt_pers S i true, (cnt_lns S i true).1⟩
  have : S.cnt i true = DevS.fail { S with off := true } i 3 := by simp [DevS.cnt, DevS.onB, ho, ha, hl]
  rw [this]
  exact (fail_all _ i 3).2.2
theorem cnt_go (ho : S.off = false) (ha : S.armed = true) (hl : S.left ≠ 0) (i : Nat) : S.cntB true = true ∧ S.cnt i true = { S with left := S.left - 1, exec := IntKind.u64.wrap (S.exec + 1) } := by
  simp [DevS.cntB, DevS.cnt, DevS.onB, ho, ha, hl]
/-- The power fails at an instruction. -/
theorem cut_exec1 (ho : S.off = false) (ha : S.armed = true) (hl : S.left = 0) (hn : S.lns.length = 12) (i : Nat) (p : Ins) (hp : p.2.1 = 64 ∨ p.1 = 3) : (S.exec1 i p).off = true ∧ (S.exec1 i p).pers = S.pers ∧ (S.exec1 i p).lns = S.lns := by
  have hx := cnt_cut ho ha hl i
  unfold DevS.exec1 DevS.store DevS.flush DevS.fence
  rcases hp with hp | hp
  · have hw : S.wordB p.2.1 = true := by rw [hp]; simp [DevS.wordB, hn]
    have hi : S.inB p.2.1 = true := by rw [hp]; simp [DevS.inB, hn]
    rw [hw, hi, hx.1]
    simp only [Bool.false_eq_true, if_false]
    split
    · exact hx.2
    · split <;> exact hx.2
  · rw [hp, hx.1]
    simp
    exact hx.2
/-- Line 1's word 8, and what of it is not persistent. -/
structure CS (S : DevS) (a : Int) (h : List (Int × Int)) : Prop where
  np : S.pers.length = 96
  p8 : S.pers[8]? = some a
  hist : (S.lns[1]?.map (·.hist)) = some h
theorem CS.same {a : Int} {l : List (Int × Int)} (h : CS S a l) (h1 : S'.pers = S.pers) (h2 : S'.lns = S.lns) : CS S' a l := ⟨by rw [h1]; exact h.np, by rw [h1]; exact h.p8, by rw [h2]; exact h.hist⟩
/-- The word in a crash image. -/
theorem CS.image {a : Int} {l : List (Int × Int)} (h : CS S a l) (K : Nat → Nat) : (S.upto K).pers[8]? = (applyW S.pers (l.take (K 1)))[8]? := by
  have h1 := upto_pers (S := S) K 8 (by rw [h.np]; omega)
  have h2 : (S.lns[1]?.map (·.hist)) = some l := h.hist
  have h3 : (S.upto K).pers[8]? = (applyW S.pers (((S.lns[1]?.map (·.hist)).getD []).take (K 1)))[8]? := h1
  rw [h3, h2]
  rfl
end
/-- What a cut program of one store leaves. -/
theorem cut_run (S : DevS) (N : Nat) (hG : Good S N) (hN : N < 1000000) (hl : S.lns.length = 12) (ho : S.off = false) (v want : Int) (hC : CS S v []) (hn : ∀ x, (S.thr 0).notes x = none) (k : Nat) :
    ∃ a h, CS ((S.arm k).runP 0 (storesP [(64, want)])) a h ∧ ((a = v ∧ h = []) ∨ (a = v ∧ h = [(64, want)]) ∨ (a = want ∧ h = [])) ∧ (((S.arm k).runP 0 (storesP [(64, want)])).off = false → a = want ∧ h = []) := by
  have hP : storesP [((64 : Int), want)] = [(1, 64, want), (2, 64, 0), (3, 0, 0)] := by
    have : startOf 64 = 64 := by decide
    simp [storesP, insSt, insFl, starts, cpt, this]
  have hA : S.arm k = { S with armed := true, left := (k : Int) } := by
    unfold DevS.arm
    rw [ho]
    have h1 : imax (k : Int) 0 = (k : Int) := by unfold imax; rw [if_neg (by omega)]
    simp [h1]
  rw [hP, hA]
  show ∃ a h, CS (((({ S with armed := true, left := (k : Int) } : DevS).exec1 0 (1, 64, want)).exec1 0 (2, 64, 0)).exec1 0 (3, 0, 0)) a h ∧ _ ∧ ((((({ S with armed := true, left := (k : Int) } : DevS).exec1 0 (1, 64, want)).exec1 0 (2, 64, 0)).exec1 0 (3, 0, 0)).off = false → _)
  obtain ⟨A, hAe⟩ : ∃ A : DevS, ({ S with armed := true, left := (k : Int) } : DevS) = A := ⟨_, rfl⟩
  have a1 : A.off = false := by rw [← hAe]; exact ho
  have a2 : A.armed = true := by rw [← hAe]
  have a3 : A.left = (k : Int) := by rw [← hAe]
  have a4 : A.lns.length = 12 := by rw [← hAe]; exact hl
  have a5 : CS A v [] := by rw [← hAe]; exact hC.same rfl rfl
  have a6 : ∀ x, (A.thr 0).notes x = none := by rw [← hAe]; exact hn
  have a7 : Good A N := by rw [← hAe]; exact hG.ctr _ _ _ _
  rw [hAe]
  clear hAe hA hP
  by_cases k0 : k = 0
  · obtain ⟨b1, b2, b3⟩ := cut_exec1 a1 a2 (by rw [a3, k0]; rfl) a4 0 (1, 64, want) (.inl rfl)
    obtain ⟨c1, c2, c3⟩ := off_exec1 b1 0 (2, 64, 0)
    obtain ⟨d1, d2, d3⟩ := off_exec1 c1 0 (3, 0, 0)
    exact ⟨v, [], a5.same (d2.trans (c2.trans b2)) (d3.trans (c3.trans b3)), .inl ⟨rfl, rfl⟩, fun h => by rw [d1] at h; cases h⟩
  · obtain ⟨e1, e2⟩ := cnt_go a1 a2 (by rw [a3]; omega) 0
    have hw : A.wordB 64 = true := by simp [DevS.wordB, a4]
    have hS1 : A.exec1 0 (1, 64, want) = ({ A with left := A.left - 1, exec := IntKind.u64.wrap (A.exec + 1) } : DevS).write 8 want := by
      simp only [DevS.exec1, DevS.store, if_true, hw, e1, e2]
      rfl
    have g1 : Good (A.exec1 0 (1, 64, want)) (N + 1) := a7.exec1 (by omega) _ (show (0 : Int) ≤ 64 by decide) (by omega)
    rw [hS1] at g1 ⊢
    obtain ⟨B, hB⟩ : ∃ B : DevS, ({ A with left := A.left - 1, exec := IntKind.u64.wrap (A.exec + 1) } : DevS).write 8 want = B := ⟨_, rfl⟩
    have b1 : B.off = false := by rw [← hB]; exact a1
    have b2 : B.armed = true := by rw [← hB]; exact a2
    have b3 : B.left = (k : Int) - 1 := by rw [← hB, ← a3]; rfl
    have b4 : B.lns.length = 12 := by rw [← hB]; simpa [DevS.write] using a4
    have b5 : CS B v [(64, want)] := by
      refine ⟨by rw [← hB]; exact a5.np, by rw [← hB]; exact a5.p8, ?_⟩
      have h1 := a5.hist
      rw [← hB]
      obtain ⟨l, hl1, hl2⟩ := Option.map_eq_some_iff.1 h1
      simp [DevS.write, hl1, hl2]
    have b6 : ∀ x, (B.thr 0).notes x = none := by rw [← hB]; exact a6
    rw [hB] at g1 ⊢
    clear hB hS1
    by_cases k1 : k = 1
    · obtain ⟨c1, c2, c3⟩ := cut_exec1 b1 b2 (by rw [b3, k1]; rfl) b4 0 (2, 64, 0) (.inl rfl)
      obtain ⟨d1, d2, d3⟩ := off_exec1 c1 0 (3, 0, 0)
      exact ⟨v, [(64, want)], b5.same (d2.trans c2) (d3.trans c3), .inr (.inl ⟨rfl, rfl⟩), fun h => by rw [d1] at h; cases h⟩
    · obtain ⟨e3, e4⟩ := cnt_go b1 b2 (by rw [b3]; omega) 0
      have hi : B.inB 64 = true := by simp [DevS.inB, b4]
      have hS2 : B.exec1 0 (2, 64, 0) = ({ B with left := B.left - 1, exec := IntKind.u64.wrap (B.exec + 1) } : DevS).note 0 1 := by
        simp only [DevS.exec1, DevS.flush, hi, e3, e4]
        rfl
      have g2 : Good (B.exec1 0 (2, 64, 0)) (N + 1 + 1) := g1.exec1 (by omega) _ (by decide) (by omega)
      rw [hS2] at g2 ⊢
      obtain ⟨C, hCe⟩ : ∃ C : DevS, ({ B with left := B.left - 1, exec := IntKind.u64.wrap (B.exec + 1) } : DevS).note 0 1 = C := ⟨_, rfl⟩
      have c1 : C.off = false := by rw [← hCe]; exact b1
      have c2 : C.armed = true := by rw [← hCe]; exact b2
      have c3 : C.left = (k : Int) - 1 - 1 := by rw [← hCe, ← b3]; rfl
      have c4 : C.lns.length = 12 := by rw [← hCe]; exact b4
      have c5 : CS C v [(64, want)] := by rw [← hCe]; exact b5.same rfl rfl
      obtain ⟨l, hl1, hl2⟩ := Option.map_eq_some_iff.1 b5.hist
      have c6 : (C.thr 0).notes 1 = some (l.done + 1) := by
        obtain ⟨r1, r2, _⟩ := g1.ln 1 l hl1
        have hw2 : IntKind.u64.wrap (l.done + (l.hist.length : Int)) = l.done + 1 := by
          rw [hl2]
          rw [hl2] at r2
          exact IntWalk.u64_in _ (by simp at r2 ⊢; omega)
        rw [← hCe]
        simp [DevS.note, hl1, hw2]
      have c7 : C.lns[1]? = some l := by rw [← hCe]; exact hl1
      rw [hCe] at g2 ⊢
      clear hCe hS2
      by_cases k2 : k = 2
      · obtain ⟨d1, d2, d3⟩ := cut_exec1 c1 c2 (by rw [c3, k2]; rfl) c4 0 (3, 0, 0) (.inr rfl)
        exact ⟨v, [(64, want)], c5.same d2 d3, .inr (.inl ⟨rfl, rfl⟩), fun h => by rw [d1] at h; cases h⟩
      · obtain ⟨e5, e6⟩ := cnt_go c1 c2 (by rw [c3]; omega) 0
        obtain ⟨Z, hZ⟩ : ∃ Z : DevS, ({ C with left := C.left - 1, exec := IntKind.u64.wrap (C.exec + 1) } : DevS) = Z := ⟨_, rfl⟩
        have hS3 : C.exec1 0 (3, 0, 0) = (Z.upto (Z.due 0)).clearN 0 := by
          simp only [DevS.exec1, DevS.fence, e5, e6, hZ]
          rfl
        have z5 : CS Z v [(64, want)] := by rw [← hZ]; exact c5.same rfl rfl
        have z7 : Z.lns[1]? = some l := by rw [← hZ]; exact c7
        have z6 : Z.due 0 1 = 1 := by
          have : (Z.thr 0).notes ((1 : Nat) : Int) = some (l.done + 1) := by rw [← hZ]; exact c6
          unfold DevS.due
          rw [this, z7]
          simp
          omega
        rw [hS3]
        refine ⟨want, [], ⟨?_, ?_, ?_⟩, .inr (.inr ⟨rfl, rfl⟩), fun _ => ⟨rfl, rfl⟩⟩
        · show (Z.upto (Z.due 0)).pers.length = 96
          rw [(length_upto _).1]; exact z5.np
        · show (Z.upto (Z.due 0)).pers[8]? = some want
          rw [z5.image, z6]
          simp only [List.take_succ_cons, List.take_zero, applyW, List.foldl_cons, List.foldl_nil]
          rw [List.getElem?_set, if_pos (by decide), if_pos (by rw [z5.np]; omega)]
        · show (Z.upto (Z.due 0)).lns[1]?.map (·.hist) = some []
          rw [upto_ln, z7]
          simp [z6, hl2]
/-- Line 1 is made persistent. -/
theorem persist_word {S : DevS} {N : Nat} {xs0 : List Int} {ws : List (Int × Int)} (h : Mid S 0 12 xs0 ws [] N) (hN : N + 2 < 1000000) (hw : ∀ p ∈ ws, 0 ≤ p.1) (hx : xs0.length = 96) :
    On (S.runP 0 [(2, 64, 0), (3, 0, 0)]) 12 (applyW xs0 ws) (N + 2) ∧ (∀ v, (applyW xs0 ws)[8]? = some v → CS (S.runP 0 [(2, 64, 0), (3, 0, 0)]) v []) ∧ ∀ x, ((S.runP 0 [(2, 64, 0), (3, 0, 0)]).thr 0).notes x = none := by
  have h1 := h.flush (q := 1) (by omega) (by omega)
  have hr : S.runP 0 [(2, 64, 0), (3, 0, 0)] = (S.flush 0 64).fence 0 := rfl
  have e64 : (64 : Int) * ((1 : Nat) : Int) = 64 := by decide
  rw [e64, List.nil_append] at h1
  rw [hr]
  obtain ⟨B, hB⟩ : ∃ B, S.flush 0 64 = B := ⟨_, rfl⟩
  rw [hB] at h1
  rw [hB]
  have hG := (h1.good.fence (i := 0) (by omega) (by omega)).mono (Nat.le_succ (N + 1))
  obtain ⟨c1, c2⟩ := cnt_ok (i := 0) h1.off h1.armed
  have hE : B.fence 0 = ((({ B with exec := IntKind.u64.wrap (B.exec + 1) } : DevS).upto (({ B with exec := IntKind.u64.wrap (B.exec + 1) } : DevS).due 0))).clearN 0 := by
    unfold DevS.fence; rw [c1, if_pos rfl, c2]
  rw [hE] at hG ⊢
  obtain ⟨T, hT⟩ : ∃ T : DevS, T = { B with exec := IntKind.u64.wrap (B.exec + 1) } := ⟨_, rfl⟩
  have hTl : T.lns = B.lns := by rw [hT]
  have hTt : T.thr = B.thr := by rw [hT]
  have hTp : T.pers = xs0 := by rw [hT]; exact h1.pers
  have hTc : T.cur = applyW xs0 ws := by rw [hT]; exact h1.cur
  rw [← hT] at hG ⊢
  have hlt : 1 < B.lns.length := by rw [h1.nl]; omega
  obtain ⟨l, hl⟩ : ∃ l, B.lns[1]? = some l := ⟨_, List.getElem?_eq_getElem hlt⟩
  have hdue : T.due 0 1 = l.hist.length := by
    obtain ⟨a1, a2, _⟩ := h1.good.ln 1 l hl
    unfold DevS.due
    rw [hTt, hTl, hl, h1.note 1 l hl (by simp)]
    simp
    omega
  refine ⟨⟨hG, ?_, hTc, by rw [hT]; exact h1.off, by rw [hT]; exact h1.armed, fun j => ?_⟩, fun v hv => ⟨?_, ?_, ?_⟩, fun x => ?_⟩
  · show (T.upto (T.due 0)).lns.length = 12
    rw [(length_upto _).2, hTl]; exact h1.nl
  · show (((T.upto (T.due 0)).clearN 0).thr j).err = 0
    have e1 : ((T.upto (T.due 0)).thr) = B.thr := hTt
    by_cases hj : j = 0
    · subst hj; simp [DevS.clearN, e1, h1.err]
    · simp [DevS.clearN, hj, e1, h1.err]
  · show (T.upto (T.due 0)).pers.length = 96
    rw [(length_upto _).1, hTp]; exact hx
  · show (T.upto (T.due 0)).pers[8]? = some v
    rw [upto_pers _ 8 (by rw [hTp, hx]; omega), hTp, hTl, show (8 / 8 : Nat) = 1 from rfl, hl, hdue]
    simp only [Option.map_some, Option.getD_some, List.take_length]
    rw [h1.hist 1 l hl]
    exact (applyW_filter 8 ws xs0 hw).trans hv
  · show (T.upto (T.due 0)).lns[1]?.map (·.hist) = some []
    rw [upto_ln, hTl, hl]
    simp [hdue]
  · simp [DevS.clearN]
end Go.Proofs.Ytljolgcmkejlnaa

namespace Go.Proofs.Ytljolgcmkejlnaa
open Go.RowKit
set_option linter.unusedVariables false

def DevS.disarm (S : DevS) : DevS := { S with armed := false, left := 0 }
def DevS.rearm (S : DevS) (l : Int) : DevS := { S with armed := true, left := l }
/-- An armed device of n lines that is on, with those words, all persistent; k instructions are left. -/
structure CleanA (S : DevS) (n : Nat) (xs : List Int) (N k : Nat) : Prop where
  cl : Clean S.disarm n xs N
  armed : S.armed = true
  left : S.left = (k : Int)
section
variable {S : DevS} {n N k i : Nat} {xs : List Int}
theorem CleanA.nl (h : CleanA S n xs N k) : S.lns.length = n := h.cl.nl
theorem CleanA.cur (h : CleanA S n xs N k) : S.cur = xs := h.cl.cur
theorem CleanA.pers (h : CleanA S n xs N k) : S.pers = xs := h.cl.pers
theorem CleanA.off (h : CleanA S n xs N k) : S.off = false := h.cl.off
theorem CleanA.err (h : CleanA S n xs N k) (j : Nat) : (S.thr j).err = 0 := h.cl.err j
theorem CleanA.good (h : CleanA S n xs N k) : Good S N := by
  have := h.cl.good.ctr S.off S.armed S.left S.exec
  exact this
theorem Clean.arm (h : Clean S n xs N) (k : Nat) : CleanA (S.arm (k : Int)) n xs N k := by
  have hA : S.arm (k : Int) = { S with armed := true, left := (k : Int) } := by
    unfold DevS.arm
    rw [h.off]
    have h1 : imax (k : Int) 0 = (k : Int) := by unfold imax; rw [if_neg (by omega)]
    simp [h1]
  rw [hA]
  refine ⟨⟨h.good.ctr _ _ _ _, h.nl, h.cur, h.pers, h.off, rfl, h.hist, h.err, h.notes⟩, rfl, rfl⟩
/-- Is an instruction one that an on device of that size counts? -/
def validI (S : DevS) (p : Ins) : Bool := if p.1 = 1 then S.wordB p.2.1 else if p.1 = 2 then S.inB p.2.1 else true
theorem armed_exec1 (ho : S.off = false) (ha : S.armed = true) (l : Nat) (hl : S.left = (l : Int) + 1) (p : Ins) (hv : validI S p = true) : S.exec1 i p = (S.disarm.exec1 i p).rearm (l : Int) := by
  obtain ⟨e1, e2⟩ := cnt_go ho ha (by rw [hl]; omega) i
  obtain ⟨f1, f2⟩ := cnt_ok (S := S.disarm) (i := i) ho rfl
  have e3 : S.left - 1 = (l : Int) := by omega
  unfold validI at hv
  unfold DevS.exec1
  by_cases h1 : p.1 = 1
  · rw [if_pos h1] at hv
    rw [if_pos h1, if_pos h1]
    have hv2 : S.disarm.wordB p.2.1 = true := hv
    unfold DevS.store
    rw [hv, hv2, e1, f1, if_pos rfl, if_pos rfl, e2, f2, e3, ha]
    rfl
  · rw [if_neg h1] at hv
    rw [if_neg h1, if_neg h1]
    by_cases h2 : p.1 = 2
    · rw [if_pos h2] at hv
      rw [if_pos h2, if_pos h2]
      have hv2 : S.disarm.inB p.2.1 = true := hv
      unfold DevS.flush
      rw [hv, hv2, e1, f1, if_pos rfl, if_pos rfl, e2, f2, e3, ha]
      rfl
    · rw [if_neg h2, if_neg h2]
      unfold DevS.fence
      rw [e1, f1, if_pos rfl, if_pos rfl, e2, f2, e3, ha]
      rfl
/-- The power fails at a counted instruction. -/
theorem cut_any (ho : S.off = false) (ha : S.armed = true) (hl : S.left = 0) (he : (S.thr i).err = 0) (p : Ins) (hv : validI S p = true) :
    (S.exec1 i p).off = true ∧ (S.exec1 i p).pers = S.pers ∧ (S.exec1 i p).lns = S.lns ∧ ((S.exec1 i p).thr i).err = 3 := by
  have hx := cnt_cut ho ha hl i
  have hf : S.cnt i true = DevS.fail { S with off := true } i 3 := by simp [DevS.cnt, DevS.onB, ho, ha, hl]
  have hy : ((S.cnt i true).thr i).err = 3 := by
    rw [hf]
    unfold DevS.fail
    rw [if_pos (show (({ S with off := true } : DevS).thr i).err = 0 from he)]
    simp [DevS.setErr]
  have hz := And.intro hx.2.1 (And.intro hx.2.2.1 (And.intro hx.2.2.2 hy))
  unfold validI at hv
  unfold DevS.exec1 DevS.store DevS.flush DevS.fence
  by_cases h1 : p.1 = 1
  · rw [if_pos h1] at hv
    rw [if_pos h1, hv, hx.1]
    exact hz
  · rw [if_neg h1] at hv
    rw [if_neg h1]
    by_cases h2 : p.1 = 2
    · rw [if_pos h2] at hv
      rw [if_pos h2, hv, hx.1]
      exact hz
    · rw [if_neg h2, hx.1]
      exact hz
theorem off_err (ho : S.off = true) (he : (S.thr i).err ≠ 0) (p : Ins) : ((S.exec1 i p).thr i).err = (S.thr i).err := by
  have hf : S.fail i 3 = S := by unfold DevS.fail; rw [if_neg he]
  have hx : ∀ b, ((S.cnt i b).thr i).err = (S.thr i).err := fun b => by rw [(cnt_off ho i b).2, hf]
  unfold DevS.exec1 DevS.store DevS.flush DevS.fence
  simp only [(cnt_off ho i _).1, Bool.false_eq_true, if_false]
  split
  · exact hx _
  · split
    · exact hx _
    · exact hx _
/-- A device whose power failed, with those persistent words, and at most that store beside them. -/
structure OffA (S : DevS) (n : Nat) (xs : List Int) (q : Nat) (val : Int) (N : Nat) : Prop where
  off : S.off = true
  pers : S.pers = xs
  nl : S.lns.length = n
  hist : ∀ (r : Nat) (l : Ln), S.lns[r]? = some l → l.hist = [] ∨ (r = q ∧ l.hist = [(64 * (q : Int), val)])
  good : Good S N
theorem storesPq (q : Nat) (val : Int) : storesP [(64 * (q : Int), val)] = [(1, 64 * (q : Int), val), (2, 64 * (q : Int), 0), (3, 0, 0)] := by
  have : startOf (64 * (q : Int)) = 64 * (q : Int) := by unfold startOf; omega
  simp [storesP, insSt, insFl, starts, cpt, this]
theorem Mid.ctrl {ws : List (Int × Int)} {ls : List Int} (h : Mid S i n xs ws ls N) (l : Int) : Mid (S.rearm l).disarm i n xs ws ls N :=
  ⟨h.good.ctr _ _ _ _, h.nl, h.cur, h.pers, h.off, rfl, h.hist, h.err, h.other, h.notes, h.note⟩
theorem Clean.ctrl (h : Clean S n xs N) (l : Int) : Clean (S.rearm l).disarm n xs N := ⟨h.good.ctr _ _ _ _, h.nl, h.cur, h.pers, h.off, rfl, h.hist, h.err, h.notes⟩
theorem line_hist {ls : List Int} {q : Nat} {val : Int} (h : Mid S i n xs [(64 * (q : Int), val)] ls N) (r : Nat) (l : Ln) (hl : S.lns[r]? = some l) : l.hist = [] ∨ (r = q ∧ l.hist = [(64 * (q : Int), val)]) := by
  have := h.hist r l hl
  by_cases hrq : r = q
  · right
    subst hrq
    refine ⟨rfl, ?_⟩
    rw [this, List.filter_cons_of_pos (by simp)]
    rfl
  · left
    rw [this, List.filter_cons_of_neg (by simp; omega)]
    rfl
/-- A program of one store to the first word of a line, on an armed device. -/
theorem CleanA.begin (h : CleanA S n xs N k) (hi : i < 8) (q : Nat) (hq : q < n) (val : Int) (hN : N + 3 < 1000000) :
    (3 ≤ k ∧ CleanA (S.runP i (storesP [(64 * (q : Int), val)])) n (xs.set (8 * q) val) (N + 3) (k - 3)) ∨
    (k < 3 ∧ OffA (S.runP i (storesP [(64 * (q : Int), val)])) n xs q val (N + 3) ∧ ((S.runP i (storesP [(64 * (q : Int), val)])).thr i).err = 3) := by
  have hG : Good (S.runP i (storesP [(64 * (q : Int), val)])) (N + 3) := by
    have := h.good.runP hi (storesP [(64 * (q : Int), val)]) (fun p hp => by
      rw [storesPq] at hp
      simp only [List.mem_cons, List.not_mem_nil, or_false] at hp
      rcases hp with rfl | rfl | rfl
      · show 0 ≤ 64 * (q : Int); omega
      · show 0 ≤ 64 * (q : Int); omega
      · exact Int.le_refl _) (by rw [storesPq]; simp; omega)
    rwa [storesPq] at this ⊢
  have hr : S.runP i (storesP [(64 * (q : Int), val)]) = ((S.exec1 i (1, 64 * (q : Int), val)).exec1 i (2, 64 * (q : Int), 0)).exec1 i (3, 0, 0) := by rw [storesPq]; rfl
  have hk8 : 8 * q < 8 * n := by omega
  have e8 : (8 : Int) * ((8 * q : Nat) : Int) = 64 * (q : Int) := by omega
  have hv1 : validI S (1, 64 * (q : Int), val) = true := by simp [validI, DevS.wordB, h.nl]; omega
  have m1 := (h.cl.mid i).store hk8 val
  rw [e8, List.nil_append] at m1
  by_cases k0 : k = 0
  · right
    obtain ⟨b1, b2, b3, b4⟩ := cut_any h.off h.armed (by rw [h.left, k0]; rfl) (h.err i) _ hv1
    obtain ⟨c1, c2, c3⟩ := off_exec1 b1 i (2, 64 * (q : Int), 0)
    have c4 := off_err b1 (by rw [b4]; decide) (2, 64 * (q : Int), 0)
    obtain ⟨d1, d2, d3⟩ := off_exec1 c1 i (3, 0, 0)
    have d4 := off_err c1 (by rw [c4, b4]; decide) (3, 0, 0)
    rw [hr] at hG ⊢
    refine ⟨by omega, ⟨d1, by rw [d2, c2, b2]; exact h.pers, by rw [d3, c3, b3]; exact h.nl, fun r l hl => .inl ?_, hG⟩, by rw [d4, c4, b4]⟩
    rw [d3, c3, b3] at hl
    exact h.cl.hist r l hl
  · have s1 := armed_exec1 (i := i) h.off h.armed (k - 1) (by rw [h.left]; omega) _ hv1
    have y1 : S.disarm.exec1 i (1, 64 * (q : Int), val) = S.disarm.store i (64 * (q : Int)) val := rfl
    obtain ⟨A, hA⟩ : ∃ A, S.disarm.store i (64 * (q : Int)) val = A := ⟨_, rfl⟩
    rw [y1, hA] at s1
    rw [hA] at m1
    have m1' := m1.ctrl ((k - 1 : Nat) : Int)
    obtain ⟨S1, hS1⟩ : ∃ S1, A.rearm ((k - 1 : Nat) : Int) = S1 := ⟨_, rfl⟩
    have o1 : S1.off = false := by rw [← hS1]; exact m1.off
    have a1 : S1.armed = true := by rw [← hS1]; rfl
    have l1 : S1.left = ((k - 1 : Nat) : Int) := by rw [← hS1]; rfl
    have r1 : ∀ j, (S1.thr j).err = 0 := by rw [← hS1]; exact m1.err
    rw [hS1] at s1 m1'
    have hv2 : validI S1 (2, 64 * (q : Int), 0) = true := by
      have : S1.lns.length = n := m1'.nl
      simp [validI, DevS.inB, this]
      omega
    rw [hr, s1] at hG ⊢
    by_cases k1 : k = 1
    · right
      obtain ⟨c1, c2, c3, c4⟩ := cut_any (i := i) o1 a1 (by rw [l1]; omega) (r1 i) _ hv2
      obtain ⟨d1, d2, d3⟩ := off_exec1 c1 i (3, 0, 0)
      have d4 := off_err c1 (by rw [c4]; decide) (3, 0, 0)
      refine ⟨by omega, ⟨d1, by rw [d2, c2]; exact m1'.pers, by rw [d3, c3]; exact m1'.nl, fun r l hl => ?_, hG⟩, by rw [d4, c4]⟩
      rw [d3, c3] at hl
      exact line_hist m1' r l hl
    · have s2 := armed_exec1 (i := i) o1 a1 (k - 2) (by rw [l1]; omega) _ hv2
      have y2 : S1.disarm.exec1 i (2, 64 * (q : Int), 0) = S1.disarm.flush i (64 * (q : Int)) := rfl
      have m2 := m1'.flush hq (by omega)
      rw [List.nil_append] at m2
      obtain ⟨B, hB⟩ : ∃ B, S1.disarm.flush i (64 * (q : Int)) = B := ⟨_, rfl⟩
      rw [y2, hB] at s2
      rw [hB] at m2
      have m2' := m2.ctrl ((k - 2 : Nat) : Int)
      obtain ⟨S2, hS2⟩ : ∃ S2, B.rearm ((k - 2 : Nat) : Int) = S2 := ⟨_, rfl⟩
      have o2 : S2.off = false := by rw [← hS2]; exact m2.off
      have a2 : S2.armed = true := by rw [← hS2]; rfl
      have l2 : S2.left = ((k - 2 : Nat) : Int) := by rw [← hS2]; rfl
      have r2 : ∀ j, (S2.thr j).err = 0 := by rw [← hS2]; exact m2.err
      rw [hS2] at s2 m2'
      have hv3 : validI S2 (3, 0, 0) = true := by simp [validI]
      rw [s2] at hG ⊢
      by_cases k2 : k = 2
      · right
        obtain ⟨c1, c2, c3, c4⟩ := cut_any (i := i) o2 a2 (by rw [l2]; omega) (r2 i) _ hv3
        refine ⟨by omega, ⟨c1, by rw [c2]; exact m2'.pers, by rw [c3]; exact m2'.nl, fun r l hl => ?_, hG⟩, c4⟩
        rw [c3] at hl
        exact line_hist m2' r l hl
      · left
        have s3 := armed_exec1 (i := i) o2 a2 (k - 3) (by rw [l2]; omega) _ hv3
        have y3 : S2.disarm.exec1 i (3, 0, 0) = S2.disarm.fence i := rfl
        have m3 := m2'.fence hi (by omega) (fun p hp => by
          have : p = (64 * (q : Int), val) := by simpa using hp
          subst this
          exact ⟨by show 0 ≤ 64 * (q : Int); omega, by show startOf (64 * (q : Int)) ∈ _; unfold startOf; simp⟩)
        rw [s3, y3]
        have ea : applyW xs [(64 * (q : Int), val)] = xs.set (8 * q) val := by
          simp only [applyW, List.foldl_cons, List.foldl_nil]
          congr 1
          omega
        rw [ea] at m3
        exact ⟨by omega, m3.ctrl _, rfl, rfl⟩
end
end Go.Proofs.Ytljolgcmkejlnaa

namespace Go.Proofs.Ytljolgcmkejlnaa
open Go.RowKit
set_option linter.unusedVariables false

/-- A clock with epoch e at line q of a device whose stores are all persistent. -/
structure EpG (F : Nat → Prop) (d : Nat) (t : Nat → Nat) (c : Nat) (w : World) (S : DevS) (n q : Nat) (xs : List Int) (e : Int) (an : Nat → Int) (N k : Nat) : Prop where
  dv : DV F d t w S
  cl : CleanA S n xs N k
  ck : Clk w c d (64 * (q : Int)) e an
  nf : ¬ F c
  hq : q < n
  hn : n ≤ 4096
  wd : xs[8 * q]? = some (packE e)
  he : 1 ≤ e ∧ e ≤ 2147483647

section
variable {F : Nat → Prop} {d : Nat} {t : Nat → Nat} {c : Nat} {w w0 : World} {S : DevS} {n q : Nat} {xs : List Int} {e : Int} {an : Nat → Int} {N k : Nat}
set_option maxRecDepth 100000 in
set_option maxHeartbeats 1000000 in
/-- present, when the first word of the clock's line is v. -/
theorem gPresent (h : DV F d t w S) (hcl : CleanA S n xs N k) (hck : Clk w c d (64 * (q : Int)) e an) (hn : n ≤ 4096) (hq : q < n) (i : Nat) (hi : i < 8) (ep : Int) (hv : xs[8 * q]? = some (packE ep)) (hep : 1 ≤ ep ∧ ep ≤ 2147483647) :
    Calls Try.prog 37 #[.pointer (some ⟨c, 0, none⟩), .pointer (some ⟨t i, 0, none⟩)] w fun r w' => r = .returned (.tuple #[.int .u64 ep, .int .i64 0]) ∧ w = w' := by
  have HL : Hid (Calls Try.prog 42 #[.pointer (some ⟨t i, 0, none⟩), .int .u64 (64 * (q : Int))] w fun e w' => e = .returned (.int .u64 (packE ep)) ∧ w = w') := by
    have := loadV h i hi hcl.off (8 * q) (packE ep) (by rw [hcl.cur]; exact hv)
    rwa [show (8 * ((8 * q : Nat) : Int)) = 64 * (q : Int) by omega] at this
  have HER : Hid (Calls Try.prog 36 #[.pointer (some ⟨t i, 0, none⟩)] w fun e w' => e = .returned (.int .i64 0) ∧ w = w') := by
    have := errV h i hi
    rwa [hcl.err i] at this
  have c1 := hck.c1
  have hl := hck.lt
  clear h hcl hck hv
  go_enter Try.func37, Try.ntmps37
  go_wp2_with (first | (go_at_call 42; refine HL.out.mono ?_; rintro e w' ⟨rfl, rfl⟩) | (go_at_call 36; refine HER.out.mono ?_; rintro e w' ⟨rfl, rfl⟩) | (go_at_call 51; refine (ckUnpack _ ep hep).mono ?_; rintro e w' ⟨rfl, rfl⟩))
  go_ret2
  exact ⟨rfl, rfl⟩
set_option maxRecDepth 100000 in
set_option maxHeartbeats 1000000 in
theorem gCheck (h : EpG F d t c w S n q xs e an N k) (i : Nat) (hi : i < 8) :
    Calls Try.prog 38 #[.pointer (some ⟨c, 0, none⟩), .int .i64 (i : Int)] w fun r w' => r = .returned (.tuple #[.pointer (some ⟨t i, 0, none⟩), .int .u64 e, .int .i64 0]) ∧ w = w' := by
  have HT := Lib.hid (threadV h.dv i hi)
  have HER : Hid (Calls Try.prog 36 #[.pointer (some ⟨t i, 0, none⟩)] w fun e w' => e = .returned (.int .i64 0) ∧ w = w') := by
    have := errV h.dv i hi
    rwa [h.cl.err i] at this
  have HP := Lib.hid (gPresent h.dv h.cl h.ck h.hn h.hq i hi e h.wd h.he)
  have c0 := h.ck.c0
  have hl := h.ck.lt
  have h8 : ¬ (8 : Int) ≤ (i : Int) := by omega
  clear h
  go_enter Try.func38, Try.ntmps38
  go_wp2_with (first | (go_at_call 26; refine HT.out.mono ?_; rintro e w' ⟨rfl, rfl⟩) | (go_at_call 36; refine HER.out.mono ?_; rintro e w' ⟨rfl, rfl⟩) | (go_at_call 37; refine HP.out.mono ?_; rintro e w' ⟨rfl, rfl⟩))
  go_ret3
  exact ⟨rfl, rfl⟩
set_option maxHeartbeats 1000000 in
theorem gNow (h : EpG F d t c w S n q xs e an N k) : Calls Try.prog 16 #[.pointer (some ⟨c, 0, none⟩)] w fun r w' => r = .returned (.int .u64 e) ∧ w = w' := by
  have HO : Hid (Calls Try.prog 31 #[.pointer (some ⟨d, 0, none⟩)] w fun e w' => e = .returned (.bool false) ∧ w = w') := by
    have := offV h.dv
    rwa [h.cl.off] at this
  have c0 := h.ck.c0
  have c2 := h.ck.c2
  have hl := h.ck.lt
  clear h
  go_enter Try.func16, Try.ntmps16
  go_wp2_with (go_at_call 31; refine HO.out.mono ?_; rintro e w' ⟨rfl, rfl⟩)
  go_ret
  exact ⟨rfl, rfl⟩
set_option maxRecDepth 100000 in
set_option maxHeartbeats 1000000 in
theorem gAnnounced (h : EpG F d t c w S n q xs e an N k) (i : Nat) (hi : i < 8) : Calls Try.prog 21 #[.pointer (some ⟨c, 0, none⟩), .int .i64 (i : Int)] w fun r w' => r = .returned (.tuple #[.int .u64 (an i), .bool (an i != 0)]) ∧ w = w' := by
  have hl := h.ck.lt
  have ka := h.ck.ca hi
  have h8 : ¬ (8 : Int) ≤ (i : Int) := by omega
  have h8' : (i : Int) < 8 := by omega
  clear h
  obtain ⟨a, ha⟩ : ∃ a, an i = a := ⟨_, rfl⟩
  rw [ha] at ka ⊢
  clear ha
  by_cases h0 : a = 0
  · subst h0
    go_enter Try.func21, Try.ntmps21
    go_wp2
    go_ret2
    exact ⟨rfl, rfl⟩
  · have h0' : (a == 0) = false := by simpa using h0
    have h1' : (a != 0) = true := by simpa using h0
    rw [h1']
    go_enter Try.func21, Try.ntmps21
    go_wp2
    go_ret2
    exact ⟨rfl, rfl⟩
theorem EpG.setA (h : EpG F d t c w S n q xs e an N k) {i : Nat} (hi : i < 8) (v : Int) : EpG F d t c (w.setCell ⟨c, 3 + i, none⟩ (.int .u64 v)) S n q xs e (setAn an i v) N k := by
  refine ⟨h.dv.ch (T := At c) ((Ch.refl _ _).set1 _ _) (fun b _ hb hh => h.nf (by rw [← show b = c from hh]; exact hb)), h.cl, ?_, h.nf, h.hq, h.hn, h.wd, h.he⟩
  have := CB.set h.ck (3 + i) (.int .u64 v)
  rwa [clk_set d _ e an hi v] at this
/-- What a method leaves: a clock with that epoch and announcements. -/
def EpToG (F : Nat → Prop) (d : Nat) (t : Nat → Nat) (c : Nat) (w w' : World) (n q : Nat) (xs : List Int) (e : Int) (an : Nat → Int) (N k : Nat) : Prop :=
  ∃ S', EpG F d t c w' S' n q xs e an N k ∧ Ch (fun b => F b ∨ b = c) w w'
set_option maxRecDepth 100000 in
set_option maxHeartbeats 1000000 in
theorem gEnter (h : EpG F d t c w S n q xs e an N k) (i : Nat) (hi : i < 8) : Calls Try.prog 22 #[.pointer (some ⟨c, 0, none⟩), .int .i64 (i : Int)] w fun r w' =>
    (an i = 0 ∧ r = .returned (.tuple #[.int .u64 e, .int .i64 0]) ∧ EpToG F d t c w w' n q xs e (setAn an i e) N k) ∨ (an i ≠ 0 ∧ r = .returned (.tuple #[.int .u64 0, .int .i64 8]) ∧ w = w') := by
  have HC := Lib.hid (gCheck h i hi)
  have hl := h.ck.lt
  have ka := h.ck.ca hi
  have kf := CB.frozen h.ck (3 + i)
  have H := Lib.hid h
  have h8 : (i : Int) < 8 := by omega
  clear h
  obtain ⟨a, ha⟩ : ∃ a, an i = a := ⟨_, rfl⟩
  rw [ha] at ka ⊢
  have HA := Lib.hid ha
  clear ha
  by_cases h0 : a = 0
  · subst h0
    refine calls_mono (fun r w' => r = .returned (.tuple #[.int .u64 e, .int .i64 0]) ∧ EpToG F d t c w w' n q xs e (setAn an i e) N k) ?_ (fun r w' h => .inl ⟨rfl, h⟩)
    go_enter Try.func22, Try.ntmps22
    go_wp2_with (go_at_call 38; refine HC.out.mono ?_; rintro e w' ⟨rfl, rfl⟩)
    go_ret2
    exact ⟨rfl, S, H.out.setA hi e, (Ch.refl _ _).setCell (a := ⟨c, 3 + i, none⟩) (.inl (.inr rfl)) _⟩
  · have h1' : (a != 0) = true := by simpa using h0
    refine calls_mono (fun r w' => r = .returned (.tuple #[.int .u64 0, .int .i64 8]) ∧ w = w') ?_ (fun r w' h => .inr ⟨h0, h⟩)
    go_enter Try.func22, Try.ntmps22
    go_wp2_with (go_at_call 38; refine HC.out.mono ?_; rintro e w' ⟨rfl, rfl⟩)
    go_ret2
    exact ⟨rfl, rfl⟩
set_option maxRecDepth 100000 in
set_option maxHeartbeats 1000000 in
theorem gExit (h : EpG F d t c w S n q xs e an N k) (i : Nat) (hi : i < 8) : Calls Try.prog 19 #[.pointer (some ⟨c, 0, none⟩), .int .i64 (i : Int)] w fun r w' =>
    (an i ≠ 0 ∧ r = .returned (.int .i64 0) ∧ EpToG F d t c w w' n q xs e (setAn an i 0) N k) ∨ (an i = 0 ∧ r = .returned (.int .i64 8) ∧ w = w') := by
  have HC := Lib.hid (gCheck h i hi)
  have hl := h.ck.lt
  have ka := h.ck.ca hi
  have kf := CB.frozen h.ck (3 + i)
  have H := Lib.hid h
  have h8 : (i : Int) < 8 := by omega
  clear h
  obtain ⟨a, ha⟩ : ∃ a, an i = a := ⟨_, rfl⟩
  rw [ha] at ka ⊢
  clear ha
  by_cases h0 : a = 0
  · subst h0
    refine calls_mono (fun r w' => r = .returned (.int .i64 8) ∧ w = w') ?_ (fun r w' h => .inr ⟨rfl, h⟩)
    go_enter Try.func19, Try.ntmps19
    go_wp2_with (go_at_call 38; refine HC.out.mono ?_; rintro e w' ⟨rfl, rfl⟩)
    go_ret
    exact ⟨rfl, rfl⟩
  · have h1' : (a == 0) = false := by simpa using h0
    refine calls_mono (fun r w' => r = .returned (.int .i64 0) ∧ EpToG F d t c w w' n q xs e (setAn an i 0) N k) ?_ (fun r w' h => .inl ⟨h0, h⟩)
    go_enter Try.func19, Try.ntmps19
    go_wp2_with (go_at_call 38; refine HC.out.mono ?_; rintro e w' ⟨rfl, rfl⟩)
    go_ret
    exact ⟨rfl, S, H.out.setA hi 0, (Ch.refl _ _).setCell (a := ⟨c, 3 + i, none⟩) (.inl (.inr rfl)) _⟩
end
end Go.Proofs.Ytljolgcmkejlnaa

namespace Go.Proofs.Ytljolgcmkejlnaa
open Go.RowKit
set_option linter.unusedVariables false

/-- What a program of one store leaves on an armed device. -/
def RunOut (F : Nat → Prop) (d : Nat) (t : Nat → Nat) (n q : Nat) (xs : List Int) (val : Int) (N k : Nat) (wx : World) (s : Value) : Prop :=
  (3 ≤ k ∧ s = .int .i64 0 ∧ ∃ S', DV F d t wx S' ∧ CleanA S' n (xs.set (8 * q) val) (N + 3) (k - 3)) ∨ (k < 3 ∧ s = .int .i64 3 ∧ ∃ S', DV F d t wx S' ∧ OffA S' n xs q val (N + 3))
/-- What begin leaves. -/
def BegG (F : Nat → Prop) (d : Nat) (t : Nat → Nat) (c : Nat) (n q : Nat) (xs : List Int) (e : Int) (an : Nat → Int) (N k : Nat) (ep : Int) (w : World) (r : Ending) (w' : World) : Prop :=
  ((3 ≤ k ∧ r = .returned (.int .i64 0) ∧ (∃ S', DV F d t w' S' ∧ CleanA S' n (xs.set (8 * q) (packE ep)) (N + 3) (k - 3)) ∧ Clk w' c d (64 * (q : Int)) ep an) ∨
   (k < 3 ∧ r = .returned (.int .i64 3) ∧ (∃ S', DV F d t w' S' ∧ OffA S' n xs q (packE ep) (N + 3)) ∧ Clk w' c d (64 * (q : Int)) e an)) ∧ Ch (fun b => F b ∨ b = c) w w'
section
variable {F : Nat → Prop} {d : Nat} {t : Nat → Nat} {c : Nat} {w w0 : World} {S : DevS} {n q : Nat} {xs : List Int} {e : Int} {an : Nat → Int} {N k : Nat}
theorem runG (h : DV F d t w0 S) (hcl : CleanA S n xs N k) (hb : Below w0.heap.size w0 w) (A : Option Addr) (cp : Nat) (val : Int) (hS : Sl 110 3 w A 3 cp (pcells (storesP [(64 * (q : Int), val)]))) (hA : ∀ b, OwnB A b → w0.heap.size ≤ b) (i : Nat) (hi : i < 8)
    (hq : q < n) (hn : n ≤ 4096) (hN : N + 3 < 1000000) :
    Calls Try.prog 45 #[.slice A 3 cp, .iface 61 (.pointer (some ⟨t i, 0, none⟩))] w fun r w' => ∃ v, r = .returned v ∧ RunOut F d t n q xs val N k w' v ∧ Ch F w0 w' := by
  have h2 := h.less hb (fun b => OwnB A b) (fun b hb' => ⟨hA b hb', hS.lt hb'⟩)
  have hc2 := hcl.begin hi q hq val hN
  refine (memRun w h2 i hi hcl.good A 3 cp (storesP [(64 * (q : Int), val)]) (by rw [storesPq]; rfl) hS (fun b hb hf => hf.2 hb) hN (fun p hp => ?_)).mono ?_
  · rw [storesPq] at hp
    simp only [List.mem_cons, List.not_mem_nil, or_false] at hp
    rcases hp with rfl | rfl | rfl
    · exact ⟨rfl, by show 0 ≤ 64 * (q : Int); omega, by show 64 * (q : Int) < _; omega⟩
    · exact ⟨rfl, by show 0 ≤ 64 * (q : Int); omega, by show 64 * (q : Int) < _; omega⟩
    · exact ⟨rfl, by show (0 : Int) ≤ 0; decide, by show (0 : Int) < _; decide⟩
  · rintro r w' ⟨rfl, hD, hC⟩
    refine ⟨_, rfl, ?_, (Ch.of_below hb).trans hC (fun b hb _ => hb.1)⟩
    rcases hc2 with ⟨h3, hA3⟩ | ⟨h3, hO3, he3⟩
    · exact .inl ⟨h3, by rw [hA3.err i], _, hD.mono (fun b hb => hb.1), hA3⟩
    · exact .inr ⟨h3, by rw [he3], _, hD.mono (fun b hb => hb.1), hO3⟩
set_option maxRecDepth 100000 in
set_option maxHeartbeats 2000000 in
theorem gBegin (h : DV F d t w S) (hcl : CleanA S n xs N k) (hck : Clk w c d (64 * (q : Int)) e an) (hnf : ¬ F c) (hn : n ≤ 4096) (hq : q < n) (i : Nat) (hi : i < 8) (ep : Int) (hep : 1 ≤ ep ∧ ep ≤ 2147483647) (hN : N + 3 < 1000000) :
    Calls Try.prog 39 #[.pointer (some ⟨c, 0, none⟩), .pointer (some ⟨t i, 0, none⟩), .int .u64 ep] w (BegG F d t c n q xs e an N k ep w) := by
  have H := Lib.hid h
  have HCL := Lib.hid hcl
  have HCK := Lib.hid hck
  have HNF := Lib.hid hnf
  have c1 := hck.c1
  have hl := hck.lt
  clear h hcl hck hnf
  go_enter Try.func39, Try.ntmps39
  go_upto_region 1 with (fail)
  go_cut [7] from 8 (fun s wx => RunOut F d t n q xs (packE ep) N k wx s ∧ Ch F w wx)
  case first =>
    refine ord_reads [] [.p [0, 1, 2, 4, 9, 10], .q [3, 5, 6], .h [7, 8, 11, 12]] (by kernel_rfl) (fun _ _ d _ _ h => by cases d <;> exact h) (by kernel_rfl) ?_
    dsimp only [pick, List.filterMap, List.getElem?_cons_zero, List.getElem?_cons_succ]
    refine wpQuiet_nil ?_
    rintro _ ⟨nq, rfl⟩
    obtain ⟨W, hW⟩ : ∃ W, w.drewN nq = W := ⟨_, rfl⟩
    have c1' : W.cell? ⟨c, 1, none⟩ = some (.int .u64 (64 * (q : Int))) := by rw [← hW]; exact c1
    have hl' : c < W.heap.size := by rw [← hW]; exact hl
    have HB0 : Hid (Below w.heap.size w W) := by show Below _ _ _; rw [← hW]; exact bl_drewN (Below.refl _ _) nq
    rw [hW]
    clear hW
    with_reducible refine part_pure ?_
    dsimp only [pick, List.filterMap, List.getElem?_cons_zero, List.getElem?_cons_succ]
    (repeat (first | (refine pure_ex rfl ?_; apply Exists.intro; apply And.intro; (intro w; go_simp; rfl); simp only [Act.put, List.setIfInBounds_toArray, List.set_cons_succ, List.set_cons_zero]) | (refine pure_skip rfl ?_; simp only [Act.put, List.setIfInBounds_toArray, List.set_cons_succ, List.set_cons_zero]))); refine pure_nil ?_
    with_reducible refine part_reads ?_
    dsimp only [pick, List.filterMap, List.getElem?_cons_zero, List.getElem?_cons_succ]
    (repeat (go_big_quiet_step ((go_at_call 43; exact q_same (ckPack _ ep (by omega))))))
    refine wpQuiet_nil ?_
    rintro _ ⟨nq2, rfl⟩
    with_reducible refine part_hard ?_
    dsimp only [pick, List.filterMap, List.getElem?_cons_zero, List.getElem?_cons_succ]
    go_wp2_with (first | (go_at_call 44; refine (memStores _ (some ⟨W.heap.size, 0, none⟩) 1 1 [(64 * (q : Int), packE ep)] rfl (by omega) (by omega) (one_write (W.drewN nq2) _ _) (fun p hp => by simp only [List.mem_singleton] at hp; subst hp; exact ⟨by show 0 ≤ 64 * (q : Int); omega, by show 64 * (q : Int) < _; omega⟩) (by simp [starts])).mono ?_; rintro r w2 ⟨A2, cp2, rfl, hS2, hB2, hO2⟩; rw [storesP_one] at hS2 ⊢; have HS2 := Lib.hid hS2; have HB2 : Hid (Below w.heap.size w w2) := (bl_alloc (bl_drewN HB0.out nq2) _).trans (hB2.mono (by have := HB0.out.size; simpa using Nat.le_succ_of_le this)); have HO2 := Lib.hid hO2; clear hS2 hB2 hO2) | (go_at_call 45; refine (runG H.out HCL.out HB2.out A2 cp2 (packE ep) HS2.out (fun b hb => by have := HO2.out b hb; have h3 := HB0.out.size; simp at this; omega) i hi hq hn hN).mono ?_; rintro r w3 ⟨v3, rfl, hO3, hCh3⟩; have HO3 := Lib.hid hO3; have HCh3 := Lib.hid hCh3; clear hO3 hCh3))
    with_reducible refine segs_end ?_
    with_reducible refine part_nil ?_
    go_wp2
    go_meet
    case rel => exact ⟨HO3.out, HCh3.out⟩
  case rest =>
    obtain ⟨hO, hCh3⟩ := hcut
    have hK := HCK.out.ch hCh3 HNF.out
    have k2 := hK.c2
    have kf := CB.frozen hK 2
    have kl := hK.lt
    have HK := Lib.hid hK
    have HCh3 := Lib.hid hCh3
    clear hK hCh3
    rcases hO with ⟨h3, rfl, S3, hD3, hC3⟩ | ⟨h3, rfl, S3, hD3, hC3⟩
    · have HD3 := Lib.hid hD3
      have HC3 := Lib.hid hC3
      clear hD3 hC3
      go_wp2
      go_ret
      refine ⟨.inl ⟨h3, rfl, ⟨S3, HD3.out.ch (T := At c) ((Ch.refl _ _).set1 2 _) (fun b _ hb h => HNF.out (by rw [← show b = c from h]; exact hb)), HC3.out⟩, ?_⟩, ?_⟩
      · exact CB.set HK.out 2 (.int .u64 ep)
      · exact (HCh3.out.mono (fun b hb _ => .inl hb)).setCell (a := ⟨c, 2, none⟩) (.inl (.inr rfl)) _
    · have HD3 := Lib.hid hD3
      have HC3 := Lib.hid hC3
      clear hD3 hC3
      go_wp2
      go_ret
      exact ⟨.inr ⟨h3, rfl, ⟨S3, HD3.out, HC3.out⟩, HK.out⟩, HCh3.out.mono (fun b hb _ => .inl hb)⟩
end
end Go.Proofs.Ytljolgcmkejlnaa

namespace Go.Proofs.Ytljolgcmkejlnaa
open Go.RowKit
set_option linter.unusedVariables false

/-- A clock whose device's power failed while it began epoch e + 1. -/
def OffTo (F : Nat → Prop) (d : Nat) (t : Nat → Nat) (c : Nat) (w w' : World) (n q : Nat) (xs : List Int) (e : Int) (an : Nat → Int) (N : Nat) : Prop :=
  ∃ S', DV F d t w' S' ∧ OffA S' n xs q (packE (e + 1)) N ∧ Clk w' c d (64 * (q : Int)) e an ∧ Ch (fun b => F b ∨ b = c) w w'
/-- Advance on an armed device, when the epoch is not the last one. -/
def AdvG (F : Nat → Prop) (d : Nat) (t : Nat → Nat) (c : Nat) (n q : Nat) (xs : List Int) (e : Int) (an : Nat → Int) (N kk : Nat) (w : World) (r : Ending) (w' : World) : Prop :=
  if freeB e an then (3 ≤ kk ∧ r = .returned (.tuple #[.int .u64 (e + 1), .int .i64 0]) ∧ EpToG F d t c w w' n q (xs.set (8 * q) (packE (e + 1))) (e + 1) an (N + 3) (kk - 3)) ∨ (kk < 3 ∧ r = .returned (.tuple #[.int .u64 0, .int .i64 3]) ∧ OffTo F d t c w w' n q xs e an (N + 3)) else r = .returned (.tuple #[.int .u64 0, .int .i64 7]) ∧ w = w'
section
variable {F : Nat → Prop} {d : Nat} {t : Nat → Nat} {c : Nat} {w w0 : World} {S : DevS} {n q : Nat} {xs : List Int} {e : Int} {an : Nat → Int} {N kk : Nat}
set_option maxRecDepth 100000 in
set_option maxHeartbeats 2000000 in
theorem gAdvance (h : EpG F d t c w S n q xs e an N kk) (hx : xs.length = 8 * n) (he : e < 2147483647) (hN : N + 3 < 1000000) (i : Nat) (hi : i < 8) : Calls Try.prog 15 #[.pointer (some ⟨c, 0, none⟩), .int .i64 (i : Int)] w (AdvG F d t c n q xs e an N kk w) := by
  have HC := Lib.hid (gCheck h i hi)
  have hl := h.ck.lt
  have hee := h.he
  have k0 : w.cell? ⟨c, 3, none⟩ = some (.int .u64 (an 0)) := h.ck.ca (i := 0) (by omega)
  have k1 : w.cell? ⟨c, 4, none⟩ = some (.int .u64 (an 1)) := h.ck.ca (i := 1) (by omega)
  have k2 : w.cell? ⟨c, 5, none⟩ = some (.int .u64 (an 2)) := h.ck.ca (i := 2) (by omega)
  have k3 : w.cell? ⟨c, 6, none⟩ = some (.int .u64 (an 3)) := h.ck.ca (i := 3) (by omega)
  have k4 : w.cell? ⟨c, 7, none⟩ = some (.int .u64 (an 4)) := h.ck.ca (i := 4) (by omega)
  have k5 : w.cell? ⟨c, 8, none⟩ = some (.int .u64 (an 5)) := h.ck.ca (i := 5) (by omega)
  have k6 : w.cell? ⟨c, 9, none⟩ = some (.int .u64 (an 6)) := h.ck.ca (i := 6) (by omega)
  have k7 : w.cell? ⟨c, 10, none⟩ = some (.int .u64 (an 7)) := h.ck.ca (i := 7) (by omega)
  have HBG := Lib.hid (gBegin h.dv h.cl h.ck h.nf h.hn h.hq i hi (e + 1) (by omega) hN)
  have H := Lib.hid h
  have HX := Lib.hid hx
  have he1 : (e == 2147483647) = false := by simp; omega
  have he2 : IntKind.u64.wrap (e + 1) = e + 1 := IntWalk.u64_in _ (by omega)
  clear h hx
  go_enter Try.func15, Try.ntmps15
  go_wp2_with (go_at_call 38; refine HC.out.mono ?_; rintro e w' ⟨rfl, rfl⟩)
  go_loop [26, 10, 27, 28, 29, 30, 31, 32, 33, 34, 35, 36] (fun i _ _ _ _ _ _ _ _ _ _ _ => ∃ k : Nat, k ≤ 8 ∧ i = .int .i64 k ∧ (List.range k).all (busyB e an) = true) (fun i _ _ _ _ _ _ _ _ _ _ _ => 8 - (intOf i).toNat)
  case atStart => exact ⟨0, by omega, rfl, rfl⟩
  case round =>
    obtain ⟨k, hk, rfl, hall⟩ := hrel
    have HA := Lib.hid hall
    clear hall
    by_cases hlt : k < 8
    · have hix := run_idx an w k hlt
      have hlt' : (k : Int) < 8 := by omega
      obtain ⟨a, ha⟩ : ∃ a, an k = a := ⟨_, rfl⟩
      rw [ha] at hix
      have HAK := Lib.hid ha
      clear ha
      by_cases h0 : a = 0
      · subst h0
        go_wp2
        go_round
        case rel => exact ⟨k + 1, by omega, by go_num, by rw [range_all_step, HA.out]; simp [busyB, HAK.out]⟩
        case measure => simp [intOf]; omega
      · have h0' : (a != 0) = true := by simpa using h0
        by_cases hae : a = e
        · have hb : (a != e) = false := by simpa using hae
          have HAE := Lib.hid hae
          clear hae
          go_wp2
          go_round
          case rel => exact ⟨k + 1, by omega, by go_num, by rw [range_all_step, HA.out]; simp [busyB, HAK.out, HAE.out]⟩
          case measure => simp [intOf]; omega
        · have hb : (a != e) = true := by simpa using hae
          have HF : Hid (freeB e an = false) := range_all_false hlt (by simp [busyB, HAK.out, h0, hae])
          go_wp2
          go_ret2
          unfold AdvG
          rw [HF.out]
          exact ⟨rfl, rfl⟩
    · obtain rfl : k = 8 := by omega
      go_wp2_with (go_at_call 39; refine HBG.out.mono ?_; rintro r w3 ⟨hO3, hCh3⟩; have HCh3 := Lib.hid hCh3; clear hCh3; rcases hO3 with ⟨h3, rfl, ⟨S3, hD3, hC3⟩, hK3⟩ | ⟨h3, rfl, ⟨S3, hD3, hC3⟩, hK3⟩ <;> (have HD3 := Lib.hid hD3; have HC3 := Lib.hid hC3; have HK3 := Lib.hid hK3; clear hD3 hC3 hK3))
      · go_ret2
        unfold AdvG
        rw [show freeB e an = true from HA.out]
        refine .inl ⟨h3, rfl, S3, ⟨HD3.out, HC3.out, HK3.out, H.out.nf, H.out.hq, H.out.hn, ?_, by omega⟩, HCh3.out⟩
        have := H.out.hq
        rw [List.getElem?_set, if_pos rfl, if_pos (by rw [HX.out]; omega)]
      · go_ret2
        unfold AdvG
        rw [show freeB e an = true from HA.out]
        exact .inr ⟨h3, rfl, S3, HD3.out, HC3.out, HK3.out, HCh3.out⟩
end
end Go.Proofs.Ytljolgcmkejlnaa

namespace Go.Proofs.Ytljolgcmkejlnaa
open Go.RowKit
set_option linter.unusedVariables false

/-- Open on an armed device. -/
def OpenG (F : Nat → Prop) (d : Nat) (t : Nat → Nat) (n q : Nat) (xs : List Int) (e : Int) (N kk : Nat) (w : World) (r : Ending) (w' : World) : Prop :=
  (3 ≤ kk ∧ ∃ c S', r = .returned (.tuple #[.pointer (some ⟨c, 0, none⟩), .int .i64 0]) ∧ EpG (fun b => F b ∧ b ≠ c) d t c w' S' n q (xs.set (8 * q) (packE (e + 1))) (e + 1) (fun _ => 0) (N + 3) (kk - 3) ∧ w.heap.size ≤ c ∧ Ch F w w') ∨
  (kk < 3 ∧ r = .returned (.tuple #[.pointer none, .int .i64 3]) ∧ ∃ S', DV F d t w' S' ∧ OffA S' n xs q (packE (e + 1)) (N + 3) ∧ Ch F w w')
section
variable {F : Nat → Prop} {d : Nat} {t : Nat → Nat} {w w0 : World} {S : DevS} {n q : Nat} {xs : List Int} {e : Int} {an : Nat → Int} {N kk : Nat}
set_option maxRecDepth 100000 in
set_option maxHeartbeats 2000000 in
theorem gOpen (h : DV F d t w S) (hcl : CleanA S n xs N kk) (hn : n ≤ 4096) (hq : q < n) (hx : xs.length = 8 * n) (hw : xs[8 * q]? = some (packE e)) (he : 1 ≤ e ∧ e < 2147483647) (hz : ∀ j, 1 ≤ j → j < 8 → xs[8 * q + j]? = some 0) (hN : N + 3 < 1000000) :
    Calls Try.prog 24 #[.pointer (some ⟨d, 0, none⟩), .int .i64 (q : Int)] w (OpenG F d t n q xs e N kk w) := by
  have HLN : Hid (Calls Try.prog 41 #[.pointer (some ⟨d, 0, none⟩)] w fun e w' => e = .returned (.int .i64 (n : Int)) ∧ w = w') := by
    have := linesV h
    rwa [hcl.nl] at this
  have HT := Lib.hid (threadV h 0 (by omega))
  have HER : Hid (Calls Try.prog 36 #[.pointer (some ⟨t 0, 0, none⟩)] w fun e w' => e = .returned (.int .i64 0) ∧ w = w') := by
    have := errV h 0 (by omega)
    rwa [hcl.err 0] at this
  have H := Lib.hid h
  have HCL := Lib.hid hcl
  have HZ := Lib.hid hz
  have HW := Lib.hid hw
  have HX := Lib.hid hx
  have q0 : decide ((q : Int) < 0) = false := decide_eq_false (by omega)
  have q1 : IntKind.u64.wrap (q : Int) = (q : Int) := IntWalk.u64_in _ (by omega)
  have q3 : ¬ (n : Int) ≤ (q : Int) := by omega
  have q4 : IntKind.u64.wrap ((q : Int) * 64) = 64 * (q : Int) := by rw [Int.mul_comm]; exact IntWalk.u64_in _ (by omega)
  have hck : Clk (w.alloc (.cells (clkCells d (64 * (q : Int)) 0 (fun _ => 0)) 75)) w.heap.size d (64 * (q : Int)) 0 (fun _ => 0) := CB.new _ _ _
  have HPR := Lib.hid (gPresent (h.alloc (.cells (clkCells d (64 * (q : Int)) 0 (fun _ => 0)) 75)) hcl hck hn hq 0 (by omega) e hw (by omega))
  have HCK := Lib.hid hck
  clear h hcl hz hw hx hck
  go_enter Try.func24, Try.ntmps24
  go_wp2_with (first | (go_at_call 41; refine HLN.out.mono ?_; rintro e w' ⟨rfl, rfl⟩) | (go_at_call 26; refine HT.out.mono ?_; rintro e w' ⟨rfl, rfl⟩) | (go_at_call 36; refine HER.out.mono ?_; rintro e w' ⟨rfl, rfl⟩) | (go_at_call 37; refine HPR.out.mono ?_; rintro e w' ⟨rfl, rfl⟩))
  have hDF : DV (fun b => F b ∧ ¬ b = w.heap.size) d t (w.alloc (.cells (clkCells d (64 * (q : Int)) 0 (fun _ => 0)) 75)) S := H.out.less (bl_alloc (Below.refl _ _) _) (fun b => b = w.heap.size) (fun b hb => ⟨by omega, by rw [hb]; simp⟩)
  have hB0 : Ch F w (w.alloc (.cells (clkCells d (64 * (q : Int)) 0 (fun _ => 0)) 75)) := (Ch.refl _ _).alloc _
  obtain ⟨c, hc⟩ : ∃ c, w.heap.size = c := ⟨_, rfl⟩
  obtain ⟨W, hW⟩ : ∃ W, w.alloc (.cells (clkCells d (64 * (q : Int)) 0 (fun _ => 0)) 75) = W := ⟨_, rfl⟩
  rw [hc, hW] at hDF HCK
  rw [hW] at hB0
  have hwc : w.heap.size ≤ c := by omega
  rw [hc, hW]
  have c1 := HCK.out.c1
  have hl := HCK.out.lt
  have HDF := Lib.hid hDF
  have HB0 := Lib.hid hB0
  have he1 : (e == 2147483647) = false := by simp; omega
  have he2 : IntKind.u64.wrap (e + 1) = e + 1 := IntWalk.u64_in _ (by omega)
  clear hDF hB0 hc hW H HPR HER HT HLN
  go_loopw [11, 47, 48, 49, 50, 51, 52, 53, 54, 55, 56, 57, 58, 59, 60] (fun a _ _ _ _ _ _ _ _ _ _ _ _ _ _ wr => ∃ k : Nat, 1 ≤ k ∧ k ≤ 8 ∧ a = .int .u64 k ∧ wr = W) (fun a _ _ _ _ _ _ _ _ _ _ _ _ _ _ _ => 8 - (intOf a).toNat)
  case atStart => exact ⟨1, by omega, by omega, rfl, rfl⟩
  case round =>
    obtain ⟨k, hk1, hk, rfl, rfl⟩ := hrel
    by_cases hlt : k < 8
    · have hlt' : (k : Int) < 8 := by omega
      have r1 : IntKind.u64.wrap ((k : Int) * 8) = 8 * (k : Int) := by rw [Int.mul_comm]; exact IntWalk.u64_in _ (by omega)
      have r2 : IntKind.u64.wrap (64 * (q : Int) + 8 * (k : Int)) = 64 * (q : Int) + 8 * (k : Int) := IntWalk.u64_in _ (by omega)
      have r3 : IntKind.u64.wrap ((k : Int) + 1) = (k : Int) + 1 := IntWalk.u64_in _ (by omega)
      have HLD : Hid (Calls Try.prog 42 #[.pointer (some ⟨t 0, 0, none⟩), .int .u64 (64 * (q : Int) + 8 * (k : Int))] wr fun e w' => e = .returned (.int .u64 0) ∧ wr = w') := by
        have := loadV HDF.out 0 (by omega) HCL.out.off (8 * q + k) 0 (by rw [HCL.out.cur]; exact HZ.out k hk1 hlt)
        rwa [show (8 * ((8 * q + k : Nat) : Int)) = 64 * (q : Int) + 8 * (k : Int) by omega] at this
      go_wp2_with (go_at_call 42; refine HLD.out.mono ?_; rintro e w' ⟨rfl, rfl⟩)
      exact ⟨⟨k + 1, by omega, by omega, by go_num, by first | rfl | trivial⟩, by simp [intOf]; omega⟩
    · obtain rfl : k = 8 := by omega
      have HBG := Lib.hid (gBegin HDF.out HCL.out HCK.out (fun h => h.2 rfl) hn hq 0 (by omega) (e + 1) (by omega) hN)
      go_wp2_with (go_at_call 39; refine HBG.out.mono ?_; rintro r w3 ⟨hO3, hCh3⟩; have HCh3 := Lib.hid hCh3; clear hCh3; rcases hO3 with ⟨h3, rfl, ⟨S3, hD3, hC3⟩, hK3⟩ | ⟨h3, rfl, ⟨S3, hD3, hC3⟩, hK3⟩ <;> (have HD3 := Lib.hid hD3; have HC3 := Lib.hid hC3; have HK3 := Lib.hid hK3; clear hD3 hC3 hK3))
      · go_ret2
        refine .inl ⟨h3, c, S3, rfl, ⟨HD3.out, HC3.out, HK3.out, fun h => h.2 rfl, hq, hn, ?_, by omega⟩, hwc, ?_⟩
        · rw [List.getElem?_set, if_pos rfl, if_pos (by rw [HX.out]; omega)]
        · refine HB0.out.trans HCh3.out (fun b hb hlt => ?_)
          rcases hb with h | h
          · exact h.1
          · omega
      · go_ret2
        refine .inr ⟨h3, rfl, S3, HD3.out.mono (fun b hb => hb.1), HC3.out, ?_⟩
        refine HB0.out.trans HCh3.out (fun b hb hlt => ?_)
        rcases hb with h | h
        · exact h.1
        · omega
end
end Go.Proofs.Ytljolgcmkejlnaa

namespace Go.Proofs.Ytljolgcmkejlnaa
open Go.RowKit
set_option linter.unusedVariables false

theorem wE_fits (n q : Nat) (e : Int) (he : 1 ≤ e ∧ e ≤ 2147483647) : Fits (wE n q e) := by
  intro x hx
  rcases List.mem_or_eq_of_mem_set hx with h | h
  · rw [List.eq_of_mem_replicate h]; omega
  · rw [h]; exact packE_range (by omega)
/-- A device whose crash images are the words of epoch e or of e + 1. -/
structure CutD (S : DevS) (e : Int) (N : Nat) : Prop where
  good : Good S N
  np : S.pers.length = 8 * 4
  img : ∀ K, (∀ q l, S.lns[q]? = some l → K q ≤ l.hist.length) → (S.upto K).pers = wE 4 2 e ∨ (S.upto K).pers = wE 4 2 (e + 1)
theorem img_none {S : DevS} {K : Nat → Nat} (h : ∀ q, ((S.lns[q]?.map (·.hist)).getD []).take (K q) = []) : (S.upto K).pers = S.pers := by
  apply List.ext_getElem?
  intro j
  by_cases hj : j < S.pers.length
  · rw [upto_pers _ j hj, h (j / 8)]; rfl
  · rw [List.getElem?_eq_none (by rw [(length_upto _).1]; omega), List.getElem?_eq_none (by omega)]
theorem Good.same3 {S S' : DevS} {N : Nat} (h : Good S N) (hs : S' = S) : Good S' N := by rw [hs]; exact h
theorem CleanA.cutD {S : DevS} {e : Int} {N k : Nat} (h : CleanA S 4 (wE 4 2 e) N k) : CutD S e N := by
  refine ⟨h.good, by rw [h.pers]; exact wE_length 4 2 e, fun K hK => .inl ?_⟩
  rw [img_none (fun q => ?_), h.pers]
  cases hl : S.lns[q]? with
  | none => simp
  | some l => simp [h.cl.hist q l hl]
theorem OffA.cutD {S : DevS} {e : Int} {N : Nat} (h : OffA S 4 (wE 4 2 e) 2 (packE (e + 1)) N) : CutD S e N := by
  refine ⟨h.good, by rw [h.pers]; exact wE_length 4 2 e, fun K hK => ?_⟩
  by_cases hc : ∃ l, S.lns[2]? = some l ∧ l.hist = [(64 * ((2 : Nat) : Int), packE (e + 1))] ∧ K 2 = 1
  · right
    obtain ⟨l2, hl2, hh2, hk2⟩ := hc
    have hx : wE 4 2 (e + 1) = S.pers.set 16 (packE (e + 1)) := by rw [h.pers]; exact (wE_set 4 2 e (e + 1)).symm
    rw [hx]
    apply List.ext_getElem?
    intro j
    by_cases hj : j < S.pers.length
    · rw [upto_pers _ j hj]
      by_cases h2 : j / 8 = 2
      · rw [h2, hl2, hk2]
        simp only [Option.map_some, Option.getD_some, hh2]
        rfl
      · have h0 : ((S.lns[j / 8]?.map (·.hist)).getD []) = [] := by
          cases hl : S.lns[j / 8]? with
          | none => rfl
          | some l =>
            rcases h.hist _ l hl with h3 | h3
            · exact h3
            · exact absurd h3.1 h2
        rw [h0, List.getElem?_set, if_neg (by omega)]
        simp [applyW]
    · rw [List.getElem?_eq_none (by rw [(length_upto _).1]; omega), List.getElem?_eq_none (by rw [List.length_set]; omega)]
  · left
    rw [img_none (fun q => ?_), h.pers]
    cases hl : S.lns[q]? with
    | none => simp
    | some l =>
      rcases h.hist q l hl with h3 | ⟨h3, h4⟩
      · simp [h3]
      · subst h3
        have h5 := hK 2 l hl
        rw [h4] at h5
        have h6 : K 2 = 0 := by
          by_cases h7 : K 2 = 1
          · exact absurd ⟨l, hl, h4, h7⟩ hc
          · simp at h5; omega
        simp [h6]
set_option maxRecDepth 100000 in
set_option maxHeartbeats 2000000 in
/-- Image without a choice. -/
theorem devImage_nilc (w : World) (d : Nat) (L : Lay) (S : DevS) (h : Dev w d L S) (hf : Fits S.pers) (A : Option Addr) (cp : Nat) :
    Calls Try.prog 50 #[.pointer (some ⟨d, 0, none⟩), .slice A 0 cp] w (ImgPost w S) := by
  have d0 : w.cell? ⟨d, 0, none⟩ = some (.slice (some ⟨L.pb, 0, none⟩) S.pers.length L.pc) := h.dev.cell_some (i := 0) rfl
  have dl := h.lt
  have hn := h.nl
  have hp := h.np
  have HCL := Lib.hid (cloneU w L.pb 0 S.pers.length L.pc S.pers rfl (by omega) (by omega) h.pers.rdW)
  have HF := Lib.hid hf
  obtain ⟨n, hnn⟩ : ∃ n, S.pers.length = n := ⟨_, rfl⟩
  have HN := Lib.hid hnn
  have hn5 : n ≤ 32768 := by omega
  unfold ImgPost
  rw [hnn] at d0 HCL ⊢
  clear h hf hnn hp
  go_enter Try.func50, Try.ntmps50
  go_wp2_with (first
    | (go_at_call 52; refine HCL.out.mono ?_; rintro e w1 ⟨g, c, rfl, hS, hg, hb⟩; have HS := Lib.hid hS; have HB := Lib.hid hb; have HG := Lib.hid hg; clear hS hb hg)
    | (go_at_call 63; refine (bytesOfD w1 _ n c S.pers HN.out hn5 HF.out HS.out.rdW).mono ?_; rintro e w2 ⟨g2, rfl, hI2, hg2, hb2⟩; have HI2 := Lib.hid hI2; have HB2 := Lib.hid hb2; have HG2 := Lib.hid hg2; clear hI2 hb2 hg2))
  go_ret
  refine ⟨g2, fun _ => 0, rfl, fun _ _ _ => Nat.zero_le _, ?_, Nat.le_trans HB.out.size HG2.out, HB.out.trans (HB2.out.mono HB.out.size)⟩
  rw [upto_none0]; exact HI2.out
/-- What a crash leaves. -/
def CrG (w : World) (e : Int) (r : Ending) (w' : World) : Prop :=
  ∃ d' t' e', r = .returned (.pointer (some ⟨d', 0, none⟩)) ∧ DV (fun b => w.heap.size ≤ b) d' t' w' (newS (wE 4 2 e') 4) ∧ (e' = e ∨ e' = e + 1) ∧ Below w.heap.size w w'
theorem crashG {F : Nat → Prop} {d : Nat} {t : Nat → Nat} {w : World} {S : DevS} {N : Nat} {e : Int} (h : DV F d t w S) (hc : CutD S e N) (hN : N < 1000000) (he : 1 ≤ e ∧ e < 2147483647)
    (A : Option Addr) (m cp : Nat) (cs : List Int) (hm : cs.length = m) (hm1 : m ≤ 9223372036854775807) (hR : Rd .u8 w A cs) (hcs : ∀ x ∈ cs, 0 ≤ x ∧ x < 256) :
    Calls Try.prog 28 #[.pointer (some ⟨d, 0, none⟩), .slice A m cp] w (CrG w e) := by
  obtain ⟨_, L, rfl, hD, hF⟩ := h
  have hf : ∀ K, (∀ q l, S.lns[q]? = some l → K q ≤ l.hist.length) → Fits (S.upto K).pers := by
    intro K hK
    rcases hc.img K hK with h | h <;> rw [h]
    · exact wE_fits 4 2 e (by omega)
    · exact wE_fits 4 2 (e + 1) (by omega)
  have hf0 : Fits S.pers := by
    have := hf (fun _ => 0) (fun _ _ _ => Nat.zero_le _)
    rwa [upto_none0] at this
  refine (devCrash w d S 4 (by omega) (by omega) hc.np hf A m cp ?_).mono ?_
  · by_cases hm0 : m = 0
    · subst hm0
      exact devImage_nilc w d L S hD hf0 A cp
    · exact devImage_some w d L S N hD hc.good hN hf A m cp cs hm (by omega) hm1 hR hcs
  · rintro r w' ⟨d', L', K, rfl, hK, hD', hF', hB⟩
    rcases hc.img K hK with h | h <;> rw [h] at hD'
    · exact ⟨d', L'.t, e, rfl, ⟨fun b hb => by have := hB.size; omega, L', rfl, hD', hF'⟩, .inl rfl, hB⟩
    · exact ⟨d', L'.t, e + 1, rfl, ⟨fun b hb => by have := hB.size; omega, L', rfl, hD', hF'⟩, .inr rfl, hB⟩
end Go.Proofs.Ytljolgcmkejlnaa

namespace Go.Proofs.Ytljolgcmkejlnaa
open Go.RowKit
set_option linter.unusedVariables false

theorem EpG.below {F : Nat → Prop} {d : Nat} {t : Nat → Nat} {c : Nat} {w w' : World} {S : DevS} {n q : Nat} {xs : List Int} {e : Int} {an : Nat → Int} {N k : Nat} (h : EpG F d t c w S n q xs e an N k) (hb : Below w.heap.size w w') : EpG F d t c w' S n q xs e an N k :=
  ⟨h.dv.below hb, h.cl, CB.below h.ck hb, h.nf, h.hq, h.hn, h.wd, h.he⟩
theorem armG {F : Nat → Prop} {d : Nat} {t : Nat → Nat} {w : World} {S : DevS} (h : DV F d t w S) (n : Int) (hn : -9223372036854775808 ≤ n ∧ n < 9223372036854775808) :
    Calls Try.prog 30 #[.pointer (some ⟨d, 0, none⟩), .int .i64 n] w fun e w' => e = .returned (.tuple #[]) ∧ DV F d t w' (S.arm n) ∧ Ch F w w' := by
  obtain ⟨h1, L, rfl, h3, h4⟩ := h
  refine (devArm w d L S h3 n hn).mono ?_
  rintro e w' ⟨rfl, hD2, hC2⟩
  exact ⟨rfl, ⟨fun b hb => h1 b (Nat.le_trans hC2.size hb), L, rfl, hD2, h4⟩, hC2.mono (fun b hb _ => h4 b hb)⟩
/-- The clock's device is on. -/
def GrOn (w : World) (d : Nat) (t : Nat → Nat) (k c : Nat) (e : Int) (wr : World) : Prop :=
  ∃ F S N an kk, EpG F d t c wr S 4 2 (wE 4 2 e) e an N kk ∧ (∀ b, F b → w.heap.size ≤ b) ∧ w.heap.size ≤ c ∧ Below w.heap.size w wr ∧ N ≤ 13 + 3 * k ∧ 2 ≤ e ∧ e ≤ 2 + (k : Int)
/-- The clock's device is off. -/
def GrOff (w : World) (d : Nat) (t : Nat → Nat) (k : Nat) (e : Int) (wr : World) : Prop :=
  ∃ F S N, DV F d t wr S ∧ OffA S 4 (wE 4 2 e) 2 (packE (e + 1)) N ∧ Below w.heap.size w wr ∧ N ≤ 13 + 3 * k ∧ 2 ≤ e ∧ e ≤ 2 + (k : Int)
def GrInv (w : World) (d : Nat) (t : Nat → Nat) (k c : Nat) (e : Int) (wr : World) : Prop := GrOn w d t k c e wr ∨ GrOff w d t k e wr
section
variable {w : World} {d : Nat} {t : Nat → Nat} {k c : Nat} {e : Int} {wr W : World}
theorem GrOn.below (h : GrOn w d t k c e wr) (hb : Below wr.heap.size wr W) : GrOn w d t k c e W := by
  obtain ⟨F, S, N, an, kk, hE, hF, hc, hB, hN, h1, h2⟩ := h
  exact ⟨F, S, N, an, kk, hE.below hb, hF, hc, hB.trans (hb.mono hB.size), hN, h1, h2⟩
theorem GrOff.below (h : GrOff w d t k e wr) (hb : Below wr.heap.size wr W) : GrOff w d t k e W := by
  obtain ⟨F, S, N, hE, hO, hB, hN, h1, h2⟩ := h
  exact ⟨F, S, N, hE.below hb, hO, hB.trans (hb.mono hB.size), hN, h1, h2⟩
theorem GrInv.below (h : GrInv w d t k c e wr) (hb : Below wr.heap.size wr W) : GrInv w d t k c e W := by
  rcases h with h | h
  · exact .inl (h.below hb)
  · exact .inr (h.below hb)
theorem GrOn.next (h : GrOn w d t k c e wr) : GrOn w d t (k + 1) c e wr := by
  obtain ⟨F, S, N, an, kk, hE, hF, hc, hB, hN, h1, h2⟩ := h
  exact ⟨F, S, N, an, kk, hE, hF, hc, hB, by omega, h1, by omega⟩
theorem grTo {F : Nat → Prop} {N kk : Nat} {e' : Int} {an : Nat → Int} (hF : ∀ b, F b → w.heap.size ≤ b) (hc : w.heap.size ≤ c) (hB : Below w.heap.size w wr) (hN : N ≤ 13 + 3 * k) (h1 : 2 ≤ e') (h2 : e' ≤ 2 + (k : Int)) (h : EpToG F d t c wr W 4 2 (wE 4 2 e') e' an N kk) : GrOn w d t k c e' W := by
  obtain ⟨S', hE, hC⟩ := h
  exact ⟨F, S', N, an, kk, hE, hF, hc, bl_ch hB hC (fun b hb => by rcases hb with h | h; exact hF b h; rw [h]; exact hc), hN, h1, h2⟩
theorem grEnter (h : GrOn w d t k c e wr) (hk : k < 15) (z : Int) : Calls Try.prog 22 #[.pointer (some ⟨c, 0, none⟩), .int .i64 z] wr fun r w' =>
    ∃ x y, r = .returned (.tuple #[.int .u64 x, .int .i64 y]) ∧ ((y = 0 ∧ x = e) ∨ y = 8 ∨ y = 1) ∧ GrInv w d t (k + 1) c e w' := by
  by_cases hz : z < 0 ∨ 8 ≤ z
  · refine (ckEnter_bad wr _ z (.inr hz)).mono ?_
    rintro r w' ⟨rfl, rfl⟩
    exact ⟨_, _, rfl, .inr (.inr rfl), .inl h.next⟩
  · obtain ⟨i, rfl⟩ := Int.eq_ofNat_of_zero_le (show 0 ≤ z by omega)
    have h' := h
    obtain ⟨F, S, N, an, kk, hE, hF, hc, hB, hN, h1, h2⟩ := h
    refine (gEnter hE i (by omega)).mono ?_
    rintro r w' (⟨ha, rfl, hT⟩ | ⟨ha, rfl, rfl⟩)
    · exact ⟨_, _, rfl, .inl ⟨rfl, rfl⟩, .inl (grTo hF hc hB (by omega) h1 (by omega) hT)⟩
    · exact ⟨_, _, rfl, .inr (.inl rfl), .inl h'.next⟩
theorem grExit (h : GrOn w d t k c e wr) (hk : k < 15) (z : Int) : Calls Try.prog 19 #[.pointer (some ⟨c, 0, none⟩), .int .i64 z] wr fun r w' =>
    (∃ y, r = .returned (.int .i64 y)) ∧ GrInv w d t (k + 1) c e w' := by
  by_cases hz : z < 0 ∨ 8 ≤ z
  · refine (ckExit_bad wr _ z (.inr hz)).mono ?_
    rintro r w' ⟨rfl, rfl⟩
    exact ⟨⟨_, rfl⟩, .inl h.next⟩
  · obtain ⟨i, rfl⟩ := Int.eq_ofNat_of_zero_le (show 0 ≤ z by omega)
    have h' := h
    obtain ⟨F, S, N, an, kk, hE, hF, hc, hB, hN, h1, h2⟩ := h
    refine (gExit hE i (by omega)).mono ?_
    rintro r w' (⟨ha, rfl, hT⟩ | ⟨ha, rfl, rfl⟩)
    · exact ⟨⟨_, rfl⟩, .inl (grTo hF hc hB (by omega) h1 (by omega) hT)⟩
    · exact ⟨⟨_, rfl⟩, .inl h'.next⟩
theorem grAdvance (h : GrOn w d t k c e wr) (hk : k < 15) (z : Int) : Calls Try.prog 15 #[.pointer (some ⟨c, 0, none⟩), .int .i64 z] wr fun r w' =>
    (r = .returned (.tuple #[.int .u64 (e + 1), .int .i64 0]) ∧ GrInv w d t (k + 1) c (e + 1) w') ∨ (∃ y, r = .returned (.tuple #[.int .u64 0, .int .i64 y]) ∧ (y = 7 ∨ y = 1 ∨ y = 3) ∧ GrInv w d t (k + 1) c e w') := by
  by_cases hz : z < 0 ∨ 8 ≤ z
  · refine (ckAdvance_bad wr _ z (.inr hz)).mono ?_
    rintro r w' ⟨rfl, rfl⟩
    exact .inr ⟨_, rfl, .inr (.inl rfl), .inl h.next⟩
  · obtain ⟨i, rfl⟩ := Int.eq_ofNat_of_zero_le (show 0 ≤ z by omega)
    have h' := h
    obtain ⟨F, S, N, an, kk, hE, hF, hc, hB, hN, h1, h2⟩ := h
    refine (gAdvance hE (wE_length 4 2 e) (by omega) (by omega) i (by omega)).mono ?_
    intro r w' hA
    unfold AdvG at hA
    split at hA
    · rcases hA with ⟨h3, rfl, hT⟩ | ⟨h3, rfl, S', hD, hO, hK, hC⟩
      · rw [wE_set] at hT
        exact .inl ⟨rfl, .inl (grTo hF hc hB (by omega) (by omega) (by omega) hT)⟩
      · exact .inr ⟨_, rfl, .inr (.inr rfl), .inr ⟨F, S', _, hD, hO, bl_ch hB hC (fun b hb => by rcases hb with h | h; exact hF b h; rw [h]; exact hc), by omega, h1, by omega⟩⟩
    · obtain ⟨rfl, rfl⟩ := hA
      exact .inr ⟨_, rfl, .inl rfl, .inl h'.next⟩
theorem grOpen (h : GrOn w d t k c e wr) (hk : k < 15) : Calls Try.prog 24 #[.pointer (some ⟨d, 0, none⟩), .int .i64 2] wr fun r w' =>
    (∃ c2, r = .returned (.tuple #[.pointer (some ⟨c2, 0, none⟩), .int .i64 0]) ∧ GrOn w d t (k + 1) c2 (e + 1) w') ∨ (r = .returned (.tuple #[.pointer none, .int .i64 3]) ∧ GrInv w d t (k + 1) c e w') := by
  obtain ⟨F, S, N, an, kk, hE, hF, hc, hB, hN, h1, h2⟩ := h
  refine (gOpen (q := 2) (e := e) hE.dv hE.cl (by omega) (by omega) (wE_length 4 2 e) (wE_at 4 2 e (by omega)) (by omega) (wE_zero 4 2 e (by omega)) (by omega)).mono ?_
  rintro r w' (⟨h3, c2, S', rfl, hT, hc2, hC⟩ | ⟨h3, rfl, S', hD, hO, hC⟩)
  · rw [wE_set] at hT
    have := hB.size
    exact .inl ⟨c2, rfl, _, S', _, _, _, hT, fun b hb => hF b hb.1, by omega, bl_ch hB hC (fun b hb => hF b hb), by omega, by omega, by omega⟩
  · exact .inr ⟨rfl, .inr ⟨F, S', _, hD, hO, bl_ch hB hC (fun b hb => hF b hb), by omega, h1, by omega⟩⟩
theorem grNow (h : GrOn w d t k c e wr) : Calls Try.prog 16 #[.pointer (some ⟨c, 0, none⟩)] wr fun r w' => r = .returned (.int .u64 e) ∧ wr = w' := by
  obtain ⟨F, S, N, an, kk, hE, hF, hc, hB, hN, h1, h2⟩ := h
  exact gNow hE
theorem grOffV (h : GrInv w d t k c e wr) : (GrOn w d t k c e wr ∧ Calls Try.prog 31 #[.pointer (some ⟨d, 0, none⟩)] wr fun r w' => r = .returned (.bool false) ∧ wr = w') ∨ (GrOff w d t k e wr ∧ Calls Try.prog 31 #[.pointer (some ⟨d, 0, none⟩)] wr fun r w' => r = .returned (.bool true) ∧ wr = w') := by
  rcases h with h | h
  · refine .inl ⟨h, ?_⟩
    obtain ⟨F, S, N, an, kk, hE, hF, hc, hB, hN, h1, h2⟩ := h
    have := offV hE.dv
    rwa [hE.cl.off] at this
  · refine .inr ⟨h, ?_⟩
    obtain ⟨F, S, N, hE, hO, hB, hN, h1, h2⟩ := h
    have := offV hE
    rwa [hO.off] at this
theorem grCrash (h : GrInv w d t k c e wr) (hk : k ≤ 15) (A : Option Addr) (m cp : Nat) (cs : List Int) (hm : cs.length = m) (hm1 : m ≤ 9223372036854775807) (hR : Rd .u8 wr A cs) (hcs : ∀ x ∈ cs, 0 ≤ x ∧ x < 256) :
    Calls Try.prog 28 #[.pointer (some ⟨d, 0, none⟩), .slice A m cp] wr (CrG wr e) := by
  rcases h with h | h
  · obtain ⟨F, S, N, an, kk, hE, hF, hc, hB, hN, h1, h2⟩ := h
    exact crashG hE.dv hE.cl.cutD (by omega) (by omega) A m cp cs hm hm1 hR hcs
  · obtain ⟨F, S, N, hE, hO, hB, hN, h1, h2⟩ := h
    exact crashG hE hO.cutD (by omega) (by omega) A m cp cs hm hm1 hR hcs
theorem GrInv.facts (h : GrInv w d t k c e wr) : Below w.heap.size w wr ∧ 2 ≤ e ∧ e ≤ 2 + (k : Int) := by
  rcases h with h | h
  · obtain ⟨F, S, N, an, kk, hE, hF, hc, hB, hN, h1, h2⟩ := h
    exact ⟨hB, h1, h2⟩
  · obtain ⟨F, S, N, hE, hO, hB, hN, h1, h2⟩ := h
    exact ⟨hB, h1, h2⟩
theorem GrOn.facts (h : GrOn w d t k c e wr) : Below w.heap.size w wr ∧ 2 ≤ e ∧ e ≤ 2 + (k : Int) ∧ c < wr.heap.size := by
  obtain ⟨F, S, N, an, kk, hE, hF, hc, hB, hN, h1, h2⟩ := h
  exact ⟨hB, h1, h2, hE.ck.lt⟩
end
/-- The clock opened behind the crash. -/
theorem grAgain {w4 : World} {G : Nat → Prop} {d4 : Nat} {t4 : Nat → Nat} {e4 : Int} (h : DV G d4 t4 w4 (newS (wE 4 2 e4) 4)) (he : 1 ≤ e4 ∧ e4 < 2147483647) :
    Calls Try.prog 24 #[.pointer (some ⟨d4, 0, none⟩), .int .i64 2] w4 (OpenPost G d4 t4 4 2 (wE 4 2 e4) e4 0 w4) :=
  ckOpen (q := 2) (e := e4) h (new_clean (wE 4 2 e4) 4 (wE_length 4 2 e4)) (by omega) (by omega) (wE_length 4 2 e4) (wE_at 4 2 e4 (by omega)) he (wE_zero 4 2 e4 (by omega)) (by omega)
end Go.Proofs.Ytljolgcmkejlnaa

namespace Go.Proofs.Ytljolgcmkejlnaa
open Go.RowKit
set_option linter.unusedVariables false

theorem imax_succ (e : Int) : imax e (e + 1) = e + 1 := by have := imax_cases e (e + 1); omega
theorem imax_same (e : Int) : imax e e = e := by have := imax_cases e e; omega
set_option maxRecDepth 100000 in
set_option maxHeartbeats 4000000 in
theorem law_EpochGrows (w : World) (A : Option Addr) (n cp : Nat) (acts : List (Int × Int)) (hA : IsActs w A n cp acts) (af : Int) (haf : -9223372036854775808 ≤ af ∧ af < 9223372036854775808) (C : Option Addr) (m cc : Nat) (bs : List Int) (hm : bs.length = m) (hmc : m ≤ cc) (hmb : cc ≤ 9223372036854775807) (hR : Rd .u8 w C bs) (hbs : ∀ x ∈ bs, 0 ≤ x ∧ x < 256) :
    Calls Try.prog 8 #[.slice A n cp, .int .i64 af, .slice C m cc] w fun r w' => r = .returned (.bool true) ∧ Below w.heap.size w w' := by
  have hnc := hA.2.1
  have hcm := hA.2.2.1
  have HA := Lib.hid hA
  have HM := Lib.hid hm
  have HR := Lib.hid hR
  have HBS := Lib.hid hbs
  have HM60 := Lib.hid (fun W => mod18 W af haf 60 (by omega))
  have ham : 0 ≤ af % 60 ∧ af % 60 < 60 := by omega
  obtain ⟨kk, hkk⟩ := Int.eq_ofNat_of_zero_le ham.1
  rw [hkk] at HM60
  have hkk60 : kk < 60 := by omega
  clear hA hm hR hbs hkk ham
  go_enter Try.func8, Try.ntmps8
  go_upto_region 5 with (first
    | (go_at_call 9; refine (begin18 _).mono ?_; rintro r w1 ⟨d, t, c, S, rfl, hE, hc, hb⟩; have HE := Lib.hid hE; have HB := Lib.hid hb; clear hE hb; unfold rcv)
    | (go_at_call 10; refine (awake18 _).mono ?_; rintro r w2 ⟨rfl, hb2⟩; obtain ⟨x, rfl⟩ := bx_of hb2; clear hb2)
    | (go_at_call 16; refine (ckNow (HE.out.below (by (repeat (first | with_reducible exact Below.refl _ _ | with_reducible refine bl_alloc ?_ _ | with_reducible refine bl_drew ?_ | with_reducible refine bl_drewN ?_ _ | with_reducible refine bl_bx ?_ _ | with_reducible exact BX.below _ | with_reducible refine bl_set ?_ (by first | (exact Nat.le_refl _) | (simp; done) | (simp; omega)) _ | assumption))))).mono ?_; rintro r w' ⟨rfl, rfl⟩))
  go_upto_region 6 with (first
    | (go_at_call 17; refine (HM60.out _).mono ?_; rintro r w' ⟨rfl, rfl⟩)
    | (go_at_call 30; refine (armG (HE.out.below (by (repeat (first | with_reducible exact Below.refl _ _ | with_reducible refine bl_alloc ?_ _ | with_reducible refine bl_drew ?_ | with_reducible refine bl_drewN ?_ _ | with_reducible refine bl_bx ?_ _ | with_reducible exact BX.below _ | with_reducible refine bl_set ?_ (by first | (exact Nat.le_refl _) | (simp; done) | (simp; omega)) _ | assumption)))).dv (kk : Int) (by omega)).mono ?_; rintro r w3 ⟨rfl, hV3, hC3⟩; have HV3 := Lib.hid hV3; have HC3 := Lib.hid hC3; clear hV3 hC3))
  have HI0 : Hid (GrInv w d t 0 c 2 w3) := .inl ⟨_, _, _, _, kk, ⟨HV3.out, HE.out.cl.arm kk, CB.ch (CB.below HE.out.ck (by (repeat (first | with_reducible exact Below.refl _ _ | with_reducible refine bl_alloc ?_ _ | with_reducible refine bl_drew ?_ | with_reducible refine bl_drewN ?_ _ | with_reducible refine bl_bx ?_ _ | with_reducible exact BX.below _ | with_reducible refine bl_set ?_ (by first | (exact Nat.le_refl _) | (simp; done) | (simp; omega)) _ | assumption)))) HC3.out HE.out.nf, HE.out.nf, HE.out.hq, HE.out.hn, HE.out.wd, HE.out.he⟩, fun b hb => hb.1, hc, bl_ch (HB.out.trans (Below.mono (by (repeat (first | with_reducible exact Below.refl _ _ | with_reducible refine bl_alloc ?_ _ | with_reducible refine bl_drew ?_ | with_reducible refine bl_drewN ?_ _ | with_reducible refine bl_bx ?_ _ | with_reducible exact BX.below _ | with_reducible refine bl_set ?_ (by first | (exact Nat.le_refl _) | (simp; done) | (simp; omega)) _ | assumption))) HB.out.size)) HC3.out (fun b hb => hb.1), by omega, by omega, by omega⟩
  clear HV3 HC3 HE HB
  go_wp2
  go_loopw [11, 8, 10, 12, 13, 14, 15, 16, 17, 18, 41, 42, 43, 44, 45, 46, 47, 48, 49, 50, 51, 52, 53, 54, 55, 56, 57, 58, 59, 60, 61, 62, 63, 64, 65, 66, 67, 68, 69, 70, 71, 72, 73, 74, 75, 76, 77, 78, 79, 80, 81, 82, 83, 84, 85, 86, 87, 88, 89, 90, 91, 92, 93, 94, 95, 96, 97, 98, 99, 100, 101, 102, 103, 104, 105, 106, 107, 108] (fun i p tv _ _ _ _ _ _ _ _ _ _ _ _ _ _ _ _ _ _ _ _ _ _ _ _ _ _ _ _ _ _ _ _ _ _ _ _ _ _ _ _ _ _ _ _ _ _ _ _ _ _ _ _ _ _ _ _ _ _ _ _ _ _ _ _ _ _ _ _ _ _ _ _ _ _ _ wr => ∃ (k c : Nat) (e : Int), k ≤ 15 ∧ i = .int .i64 k ∧ p = .pointer (some ⟨c, 0, none⟩) ∧ tv = .int .u64 e ∧ GrInv w d t k c e wr) (fun i _ _ _ _ _ _ _ _ _ _ _ _ _ _ _ _ _ _ _ _ _ _ _ _ _ _ _ _ _ _ _ _ _ _ _ _ _ _ _ _ _ _ _ _ _ _ _ _ _ _ _ _ _ _ _ _ _ _ _ _ _ _ _ _ _ _ _ _ _ _ _ _ _ _ _ _ _ _ => 15 - (intOf i).toNat)
  case atStart => exact ⟨0, c, 2, by omega, rfl, rfl, rfl, HI0.out⟩
  case round =>
    clear HI0
    obtain ⟨k, c1, e, hk, rfl, rfl, rfl, hI⟩ := hrel
    obtain ⟨hBl, he1, he2⟩ := hI.facts
    have HBl := Lib.hid hBl
    have hbs := hBl.size
    rcases grOffV hI with ⟨hON, hOFF⟩ | ⟨hON, hOFF⟩
    · have HO := Lib.hid hON
      have HOF := Lib.hid hOFF
      have HI := Lib.hid hI
      have hcl := hON.facts.2.2.2
      clear hON hOFF hI
      by_cases hi1 : (k : Int) < (n : Int)
      · by_cases hi2 : (k : Int) < 15
        · have hkl : k < acts.length := by rw [HA.out.1]; omega
          obtain ⟨b, off, hA', hbl, a0, a1, ra0, ra1⟩ := HA.out.2.2.2 k hkl
          obtain ⟨⟨kd, th⟩, hact⟩ : ∃ p, acts[k] = p := ⟨_, rfl⟩
          rw [hact] at a0 a1 ra0 ra1
          have a0' : wr.cell? ⟨b, off + k * 2, none⟩ = some (.int .i64 kd) := (hBl.cell (p := ⟨b, off + k * 2, none⟩) hbl).trans a0
          have a1' : wr.cell? ⟨b, off + k * 2 + 1, none⟩ = some (.int .i64 th) := (hBl.cell (p := ⟨b, off + k * 2 + 1, none⟩) hbl).trans a1
          have hbl' : b < wr.heap.size := by omega
          have HM4 : Hid (∀ W, Calls Try.prog 17 #[.int .i64 kd, .int .i64 4] W fun r w' => r = .returned (.int .i64 (kd % 4)) ∧ W = w') := fun W => mod18 W kd ra0 4 (by omega)
          have hkn : k < n := by omega
          have hk15 : k < 15 := by omega
          have HEN := Lib.hid (fun (W : World) (hW : Below wr.heap.size wr W) => grEnter (HO.out.below hW) hk15 th)
          have HEX := Lib.hid (fun (W : World) (hW : Below wr.heap.size wr W) => grExit (HO.out.below hW) hk15 th)
          have HAD := Lib.hid (fun (W : World) (hW : Below wr.heap.size wr W) => grAdvance (HO.out.below hW) hk15 th)
          have HOP := Lib.hid (fun (W : World) (hW : Below wr.heap.size wr W) => grOpen (HO.out.below hW) hk15)
          subst hA'
          have hmx1 := imax_succ e
          have hmx0 := imax_same e
          clear hBl hact a0 a1
          have : kd % 4 = 0 ∨ kd % 4 = 1 ∨ kd % 4 = 2 ∨ kd % 4 = 3 := by omega
          rcases this with h4 | h4 | h4 | h4 <;> rw [h4] at HM4
          · go_upto_region 17 with (first
              | (go_at_call 31; refine HOF.out.mono ?_; rintro r w' ⟨rfl, rfl⟩)
              | (go_at_call 17; refine (HM4.out _).mono ?_; rintro r w' ⟨rfl, rfl⟩)
              | (go_at_call 22; refine (HEN.out _ (by (repeat (first | with_reducible exact Below.refl _ _ | with_reducible refine bl_alloc ?_ _ | with_reducible refine bl_drew ?_ | with_reducible refine bl_drewN ?_ _ | with_reducible refine bl_bx ?_ _ | with_reducible exact BX.below _ | with_reducible refine bl_set ?_ (by first | (exact Nat.le_refl _) | (simp; done) | (simp; omega)) _ | assumption)))).mono ?_; rintro r w5 ⟨x5, y5, rfl, h5, hI5⟩; have HI5 := Lib.hid hI5; have H5 := Lib.hid h5; clear hI5 h5))
            rcases H5.out with ⟨rfl, rfl⟩ | rfl | rfl
            · go_wp2
              exact ⟨⟨k + 1, c1, x5, by omega, by go_num, rfl, by first | rfl | rw [hmx0], HI5.out⟩, by simp [intOf]; omega⟩
            · go_wp2
              exact ⟨⟨k + 1, c1, e, by omega, by go_num, rfl, rfl, HI5.out⟩, by simp [intOf]; omega⟩
            · go_wp2
              exact ⟨⟨k + 1, c1, e, by omega, by go_num, rfl, rfl, HI5.out⟩, by simp [intOf]; omega⟩
          · go_wp2_with (first
              | (go_at_call 31; refine HOF.out.mono ?_; rintro r w' ⟨rfl, rfl⟩)
              | (go_at_call 17; refine (HM4.out _).mono ?_; rintro r w' ⟨rfl, rfl⟩)
              | (go_at_call 19; refine (HEX.out _ (by (repeat (first | with_reducible exact Below.refl _ _ | with_reducible refine bl_alloc ?_ _ | with_reducible refine bl_drew ?_ | with_reducible refine bl_drewN ?_ _ | with_reducible refine bl_bx ?_ _ | with_reducible exact BX.below _ | with_reducible refine bl_set ?_ (by first | (exact Nat.le_refl _) | (simp; done) | (simp; omega)) _ | assumption)))).mono ?_; rintro r w5 ⟨⟨y5, rfl⟩, hI5⟩; have HI5 := Lib.hid hI5; clear hI5))
            exact ⟨⟨k + 1, c1, e, by omega, by go_num, rfl, rfl, HI5.out⟩, by simp [intOf]; omega⟩
          · go_upto_region 23 with (first
              | (go_at_call 31; refine HOF.out.mono ?_; rintro r w' ⟨rfl, rfl⟩)
              | (go_at_call 17; refine (HM4.out _).mono ?_; rintro r w' ⟨rfl, rfl⟩)
              | (go_at_call 15; refine (HAD.out _ (by (repeat (first | with_reducible exact Below.refl _ _ | with_reducible refine bl_alloc ?_ _ | with_reducible refine bl_drew ?_ | with_reducible refine bl_drewN ?_ _ | with_reducible refine bl_bx ?_ _ | with_reducible exact BX.below _ | with_reducible refine bl_set ?_ (by first | (exact Nat.le_refl _) | (simp; done) | (simp; omega)) _ | assumption)))).mono ?_; rintro r w5 h5; have h6 : ∃ x5 y5 e5, r = .returned (.tuple #[.int .u64 x5, .int .i64 y5]) ∧ ((y5 = 0 ∧ x5 = e + 1 ∧ e5 = e + 1) ∨ (y5 ≠ 0 ∧ e5 = e)) ∧ GrInv w d t (k + 1) c1 e5 w5 := (by rcases h5 with ⟨h6, h7⟩ | ⟨y, h6, h8, h7⟩; exact ⟨_, _, _, h6, .inl ⟨rfl, rfl, rfl⟩, h7⟩; exact ⟨_, _, _, h6, .inr ⟨by omega, rfl⟩, h7⟩); clear h5; obtain ⟨x5, y5, e5, rfl, h5, hI5⟩ := h6; have HI5 := Lib.hid hI5; have H5 := Lib.hid h5; clear hI5 h5))
            rcases H5.out with ⟨rfl, rfl, rfl⟩ | ⟨h5, rfl⟩
            · go_wp2
              exact ⟨⟨k + 1, c1, e + 1, by omega, by go_num, rfl, by first | rfl | rw [hmx1], HI5.out⟩, by simp [intOf]; omega⟩
            · have h5b : (y5 == 0) = false := by simpa using h5
              go_wp2
              exact ⟨⟨k + 1, c1, e5, by omega, by go_num, rfl, rfl, HI5.out⟩, by simp [intOf]; omega⟩
          · go_upto_region 12 with (first
              | (go_at_call 31; refine HOF.out.mono ?_; rintro r w' ⟨rfl, rfl⟩)
              | (go_at_call 17; refine (HM4.out _).mono ?_; rintro r w' ⟨rfl, rfl⟩)
              | (go_at_call 24; refine (HOP.out _ (by (repeat (first | with_reducible exact Below.refl _ _ | with_reducible refine bl_alloc ?_ _ | with_reducible refine bl_drew ?_ | with_reducible refine bl_drewN ?_ _ | with_reducible refine bl_bx ?_ _ | with_reducible exact BX.below _ | with_reducible refine bl_set ?_ (by first | (exact Nat.le_refl _) | (simp; done) | (simp; omega)) _ | assumption)))).mono ?_; rintro r w5 h5; have h6 : ∃ p5 y5, r = .returned (.tuple #[.pointer p5, .int .i64 y5]) ∧ ((∃ c2, p5 = some ⟨c2, 0, none⟩ ∧ y5 = 0 ∧ GrOn w d t (k + 1) c2 (e + 1) w5) ∨ (y5 = 3 ∧ GrInv w d t (k + 1) c1 e w5)) := (by rcases h5 with ⟨c2, h6, h7⟩ | ⟨h6, h7⟩; exact ⟨_, _, h6, .inl ⟨c2, rfl, rfl, h7⟩⟩; exact ⟨_, _, h6, .inr ⟨rfl, h7⟩⟩); clear h5; obtain ⟨p5, y5, rfl, h5⟩ := h6; have H5 := Lib.hid h5; clear h5))
            rcases H5.out with ⟨c2, rfl, rfl, hO5⟩ | ⟨rfl, hI5⟩
            · have HO5 := Lib.hid hO5
              have hcl5 := hO5.facts.2.2.2
              have HN5 := Lib.hid (grNow hO5)
              clear hO5
              go_wp2_with (go_at_call 16; refine HN5.out.mono ?_; rintro r w' ⟨rfl, rfl⟩)
              exact ⟨⟨k + 1, c2, e + 1, by omega, by go_num, rfl, by first | rfl | rw [hmx1], .inl HO5.out⟩, by simp [intOf]; omega⟩
            · have HI5 := Lib.hid hI5
              clear hI5
              go_wp2
              exact ⟨⟨k + 1, c1, e, by omega, by go_num, rfl, rfl, HI5.out⟩, by simp [intOf]; omega⟩
        · have hi2' : ¬ (k : Int) < 15 := hi2
          go_upto_region 25 with (go_at_call 31; refine HOF.out.mono ?_; rintro r w' ⟨rfl, rfl⟩)
          clear HOF
          have HR1 := Lib.hid (HR.out.below HBl.out)
          by_cases h8 : 8 < m
          · have HCR := Lib.hid (fun (cp1 : Nat) => grCrash HI.out hk C 8 cp1 (bs.take 8) (by rw [List.length_take, HM.out]; omega) (by omega) (HR1.out.take 8) (fun x hx => HBS.out x (List.mem_of_mem_take hx)))
            have h8' : (8 : Int) < (m : Int) := by omega
            have h8c : 8 ≤ cc := by omega
            obtain ⟨b8, o8, hC8, _, _⟩ := HR.out.at_ (i := 0) (by rw [HM.out]; omega)
            subst hC8
            clear HR1
            go_upto_region 27 with (fail)
            go_upto_region 28 with (first
              | (go_at_call 28; refine (HCR.out _).mono ?_; rintro r w4 ⟨d4, t4, e4, rfl, hV4, he4, hB4⟩; have HOP := Lib.hid (grAgain hV4 (by omega)); have HB4 := Lib.hid hB4; clear hV4 hB4)
              | (go_at_call 24; refine HOP.out.mono ?_; rintro r w5 ⟨c5, S5, rfl, hE5, hc5, hH5⟩; have HE5 := Lib.hid hE5; have HH5 := Lib.hid hH5; clear hE5 hc5 hH5))
            have HB5 : Hid (Below w.heap.size w w5) := by
              have h4 := HBl.out.trans (HB4.out.mono HBl.out.size)
              exact h4.trans (HH5.out.to_below h4.size (fun b hb => by have := HBl.out.size; omega))
            have HN5 := Lib.hid (ckNow HE5.out)
            have HAN : Hid (∀ i : Nat, i < 8 → Calls Try.prog 21 #[.pointer (some ⟨c5, 0, none⟩), .int .i64 (i : Int)] w5 fun r w' => r = .returned (.tuple #[.int .u64 0, .bool false]) ∧ w5 = w') := fun i hi => ckAnnounced HE5.out i hi
            have hcl5 := HE5.out.ck.lt
            obtain ⟨x5, hx5⟩ : ∃ x5, e4 + 1 = x5 := ⟨_, rfl⟩
            rw [hx5] at HN5
            have g1 : ¬ x5 ≤ e := by omega
            have g2 : ¬ e + 2 < x5 := by omega
            have g3 : IntKind.u64.wrap (e + 2) = e + 2 := IntWalk.u64_in _ (by omega)
            clear hx5 he4 HCR HOP HH5 HE5 HI
            go_wp2_with (go_at_call 16; refine HN5.out.mono ?_; rintro r w' ⟨rfl, rfl⟩)
            go_loopw [136, 6, 21, 22, 23, 137, 138, 139, 140, 141, 142, 143, 144, 145, 146] (fun i _ _ _ _ _ _ _ _ _ _ _ _ _ _ wz => ∃ j : Nat, j ≤ 8 ∧ i = .int .i64 j ∧ wz = w5) (fun i _ _ _ _ _ _ _ _ _ _ _ _ _ _ _ => 8 - (intOf i).toNat)
            case atStart => exact ⟨0, by omega, rfl, rfl⟩
            case round =>
              obtain ⟨j, hj, rfl, rfl⟩ := hrel
              by_cases hlt : j < 8
              · have hlt' : (j : Int) < 8 := by omega
                have HA8 := Lib.hid (HAN.out j hlt)
                go_wp2_with (go_at_call 21; refine HA8.out.mono ?_; rintro r w' ⟨rfl, rfl⟩)
                exact ⟨⟨j + 1, by omega, by go_num, by first | rfl | trivial⟩, by simp [intOf]; omega⟩
              · obtain rfl : j = 8 := by omega
                go_wp2
                go_ret
                exact ⟨rfl, HB5.out⟩
          · have HCR := Lib.hid (fun (cp1 : Nat) => grCrash HI.out hk C m cp1 bs HM.out (by omega) HR1.out HBS.out)
            have h8' : ¬ (8 : Int) < (m : Int) := by omega
            clear HR1
            go_upto_region 27 with (fail)
            go_upto_region 28 with (first
              | (go_at_call 28; refine (HCR.out _).mono ?_; rintro r w4 ⟨d4, t4, e4, rfl, hV4, he4, hB4⟩; have HOP := Lib.hid (grAgain hV4 (by omega)); have HB4 := Lib.hid hB4; clear hV4 hB4)
              | (go_at_call 24; refine HOP.out.mono ?_; rintro r w5 ⟨c5, S5, rfl, hE5, hc5, hH5⟩; have HE5 := Lib.hid hE5; have HH5 := Lib.hid hH5; clear hE5 hc5 hH5))
            have HB5 : Hid (Below w.heap.size w w5) := by
              have h4 := HBl.out.trans (HB4.out.mono HBl.out.size)
              exact h4.trans (HH5.out.to_below h4.size (fun b hb => by have := HBl.out.size; omega))
            have HN5 := Lib.hid (ckNow HE5.out)
            have HAN : Hid (∀ i : Nat, i < 8 → Calls Try.prog 21 #[.pointer (some ⟨c5, 0, none⟩), .int .i64 (i : Int)] w5 fun r w' => r = .returned (.tuple #[.int .u64 0, .bool false]) ∧ w5 = w') := fun i hi => ckAnnounced HE5.out i hi
            have hcl5 := HE5.out.ck.lt
            obtain ⟨x5, hx5⟩ : ∃ x5, e4 + 1 = x5 := ⟨_, rfl⟩
            rw [hx5] at HN5
            have g1 : ¬ x5 ≤ e := by omega
            have g2 : ¬ e + 2 < x5 := by omega
            have g3 : IntKind.u64.wrap (e + 2) = e + 2 := IntWalk.u64_in _ (by omega)
            clear hx5 he4 HCR HOP HH5 HE5 HI
            go_wp2_with (go_at_call 16; refine HN5.out.mono ?_; rintro r w' ⟨rfl, rfl⟩)
            go_loopw [136, 6, 21, 22, 23, 137, 138, 139, 140, 141, 142, 143, 144, 145, 146] (fun i _ _ _ _ _ _ _ _ _ _ _ _ _ _ wz => ∃ j : Nat, j ≤ 8 ∧ i = .int .i64 j ∧ wz = w5) (fun i _ _ _ _ _ _ _ _ _ _ _ _ _ _ _ => 8 - (intOf i).toNat)
            case atStart => exact ⟨0, by omega, rfl, rfl⟩
            case round =>
              obtain ⟨j, hj, rfl, rfl⟩ := hrel
              by_cases hlt : j < 8
              · have hlt' : (j : Int) < 8 := by omega
                have HA8 := Lib.hid (HAN.out j hlt)
                go_wp2_with (go_at_call 21; refine HA8.out.mono ?_; rintro r w' ⟨rfl, rfl⟩)
                exact ⟨⟨j + 1, by omega, by go_num, by first | rfl | trivial⟩, by simp [intOf]; omega⟩
              · obtain rfl : j = 8 := by omega
                go_wp2
                go_ret
                exact ⟨rfl, HB5.out⟩
      · have hi1' : ¬ (k : Int) < (n : Int) := hi1
        go_upto_region 25 with (go_at_call 31; refine HOF.out.mono ?_; rintro r w' ⟨rfl, rfl⟩)
        clear HOF
        have HR1 := Lib.hid (HR.out.below HBl.out)
        by_cases h8 : 8 < m
        · have HCR := Lib.hid (fun (cp1 : Nat) => grCrash HI.out hk C 8 cp1 (bs.take 8) (by rw [List.length_take, HM.out]; omega) (by omega) (HR1.out.take 8) (fun x hx => HBS.out x (List.mem_of_mem_take hx)))
          have h8' : (8 : Int) < (m : Int) := by omega
          have h8c : 8 ≤ cc := by omega
          obtain ⟨b8, o8, hC8, _, _⟩ := HR.out.at_ (i := 0) (by rw [HM.out]; omega)
          subst hC8
          clear HR1
          go_upto_region 27 with (fail)
          go_upto_region 28 with (first
            | (go_at_call 28; refine (HCR.out _).mono ?_; rintro r w4 ⟨d4, t4, e4, rfl, hV4, he4, hB4⟩; have HOP := Lib.hid (grAgain hV4 (by omega)); have HB4 := Lib.hid hB4; clear hV4 hB4)
            | (go_at_call 24; refine HOP.out.mono ?_; rintro r w5 ⟨c5, S5, rfl, hE5, hc5, hH5⟩; have HE5 := Lib.hid hE5; have HH5 := Lib.hid hH5; clear hE5 hc5 hH5))
          have HB5 : Hid (Below w.heap.size w w5) := by
            have h4 := HBl.out.trans (HB4.out.mono HBl.out.size)
            exact h4.trans (HH5.out.to_below h4.size (fun b hb => by have := HBl.out.size; omega))
          have HN5 := Lib.hid (ckNow HE5.out)
          have HAN : Hid (∀ i : Nat, i < 8 → Calls Try.prog 21 #[.pointer (some ⟨c5, 0, none⟩), .int .i64 (i : Int)] w5 fun r w' => r = .returned (.tuple #[.int .u64 0, .bool false]) ∧ w5 = w') := fun i hi => ckAnnounced HE5.out i hi
          have hcl5 := HE5.out.ck.lt
          obtain ⟨x5, hx5⟩ : ∃ x5, e4 + 1 = x5 := ⟨_, rfl⟩
          rw [hx5] at HN5
          have g1 : ¬ x5 ≤ e := by omega
          have g2 : ¬ e + 2 < x5 := by omega
          have g3 : IntKind.u64.wrap (e + 2) = e + 2 := IntWalk.u64_in _ (by omega)
          clear hx5 he4 HCR HOP HH5 HE5 HI
          go_wp2_with (go_at_call 16; refine HN5.out.mono ?_; rintro r w' ⟨rfl, rfl⟩)
          go_loopw [136, 6, 21, 22, 23, 137, 138, 139, 140, 141, 142, 143, 144, 145, 146] (fun i _ _ _ _ _ _ _ _ _ _ _ _ _ _ wz => ∃ j : Nat, j ≤ 8 ∧ i = .int .i64 j ∧ wz = w5) (fun i _ _ _ _ _ _ _ _ _ _ _ _ _ _ _ => 8 - (intOf i).toNat)
          case atStart => exact ⟨0, by omega, rfl, rfl⟩
          case round =>
            obtain ⟨j, hj, rfl, rfl⟩ := hrel
            by_cases hlt : j < 8
            · have hlt' : (j : Int) < 8 := by omega
              have HA8 := Lib.hid (HAN.out j hlt)
              go_wp2_with (go_at_call 21; refine HA8.out.mono ?_; rintro r w' ⟨rfl, rfl⟩)
              exact ⟨⟨j + 1, by omega, by go_num, by first | rfl | trivial⟩, by simp [intOf]; omega⟩
            · obtain rfl : j = 8 := by omega
              go_wp2
              go_ret
              exact ⟨rfl, HB5.out⟩
        · have HCR := Lib.hid (fun (cp1 : Nat) => grCrash HI.out hk C m cp1 bs HM.out (by omega) HR1.out HBS.out)
          have h8' : ¬ (8 : Int) < (m : Int) := by omega
          clear HR1
          go_upto_region 27 with (fail)
          go_upto_region 28 with (first
            | (go_at_call 28; refine (HCR.out _).mono ?_; rintro r w4 ⟨d4, t4, e4, rfl, hV4, he4, hB4⟩; have HOP := Lib.hid (grAgain hV4 (by omega)); have HB4 := Lib.hid hB4; clear hV4 hB4)
            | (go_at_call 24; refine HOP.out.mono ?_; rintro r w5 ⟨c5, S5, rfl, hE5, hc5, hH5⟩; have HE5 := Lib.hid hE5; have HH5 := Lib.hid hH5; clear hE5 hc5 hH5))
          have HB5 : Hid (Below w.heap.size w w5) := by
            have h4 := HBl.out.trans (HB4.out.mono HBl.out.size)
            exact h4.trans (HH5.out.to_below h4.size (fun b hb => by have := HBl.out.size; omega))
          have HN5 := Lib.hid (ckNow HE5.out)
          have HAN : Hid (∀ i : Nat, i < 8 → Calls Try.prog 21 #[.pointer (some ⟨c5, 0, none⟩), .int .i64 (i : Int)] w5 fun r w' => r = .returned (.tuple #[.int .u64 0, .bool false]) ∧ w5 = w') := fun i hi => ckAnnounced HE5.out i hi
          have hcl5 := HE5.out.ck.lt
          obtain ⟨x5, hx5⟩ : ∃ x5, e4 + 1 = x5 := ⟨_, rfl⟩
          rw [hx5] at HN5
          have g1 : ¬ x5 ≤ e := by omega
          have g2 : ¬ e + 2 < x5 := by omega
          have g3 : IntKind.u64.wrap (e + 2) = e + 2 := IntWalk.u64_in _ (by omega)
          clear hx5 he4 HCR HOP HH5 HE5 HI
          go_wp2_with (go_at_call 16; refine HN5.out.mono ?_; rintro r w' ⟨rfl, rfl⟩)
          go_loopw [136, 6, 21, 22, 23, 137, 138, 139, 140, 141, 142, 143, 144, 145, 146] (fun i _ _ _ _ _ _ _ _ _ _ _ _ _ _ wz => ∃ j : Nat, j ≤ 8 ∧ i = .int .i64 j ∧ wz = w5) (fun i _ _ _ _ _ _ _ _ _ _ _ _ _ _ _ => 8 - (intOf i).toNat)
          case atStart => exact ⟨0, by omega, rfl, rfl⟩
          case round =>
            obtain ⟨j, hj, rfl, rfl⟩ := hrel
            by_cases hlt : j < 8
            · have hlt' : (j : Int) < 8 := by omega
              have HA8 := Lib.hid (HAN.out j hlt)
              go_wp2_with (go_at_call 21; refine HA8.out.mono ?_; rintro r w' ⟨rfl, rfl⟩)
              exact ⟨⟨j + 1, by omega, by go_num, by first | rfl | trivial⟩, by simp [intOf]; omega⟩
            · obtain rfl : j = 8 := by omega
              go_wp2
              go_ret
              exact ⟨rfl, HB5.out⟩
    · have HOF := Lib.hid hOFF
      have HI := Lib.hid hI
      clear hON hOFF hI hBl
      by_cases hi1 : (k : Int) < (n : Int)
      · by_cases hi2 : (k : Int) < 15
        · have hi2' := hi2
          go_upto_region 25 with (go_at_call 31; refine HOF.out.mono ?_; rintro r w' ⟨rfl, rfl⟩)
          clear HOF
          have HR1 := Lib.hid (HR.out.below HBl.out)
          by_cases h8 : 8 < m
          · have HCR := Lib.hid (fun (cp1 : Nat) => grCrash HI.out hk C 8 cp1 (bs.take 8) (by rw [List.length_take, HM.out]; omega) (by omega) (HR1.out.take 8) (fun x hx => HBS.out x (List.mem_of_mem_take hx)))
            have h8' : (8 : Int) < (m : Int) := by omega
            have h8c : 8 ≤ cc := by omega
            obtain ⟨b8, o8, hC8, _, _⟩ := HR.out.at_ (i := 0) (by rw [HM.out]; omega)
            subst hC8
            clear HR1
            go_upto_region 27 with (fail)
            go_upto_region 28 with (first
              | (go_at_call 28; refine (HCR.out _).mono ?_; rintro r w4 ⟨d4, t4, e4, rfl, hV4, he4, hB4⟩; have HOP := Lib.hid (grAgain hV4 (by omega)); have HB4 := Lib.hid hB4; clear hV4 hB4)
              | (go_at_call 24; refine HOP.out.mono ?_; rintro r w5 ⟨c5, S5, rfl, hE5, hc5, hH5⟩; have HE5 := Lib.hid hE5; have HH5 := Lib.hid hH5; clear hE5 hc5 hH5))
            have HB5 : Hid (Below w.heap.size w w5) := by
              have h4 := HBl.out.trans (HB4.out.mono HBl.out.size)
              exact h4.trans (HH5.out.to_below h4.size (fun b hb => by have := HBl.out.size; omega))
            have HN5 := Lib.hid (ckNow HE5.out)
            have HAN : Hid (∀ i : Nat, i < 8 → Calls Try.prog 21 #[.pointer (some ⟨c5, 0, none⟩), .int .i64 (i : Int)] w5 fun r w' => r = .returned (.tuple #[.int .u64 0, .bool false]) ∧ w5 = w') := fun i hi => ckAnnounced HE5.out i hi
            have hcl5 := HE5.out.ck.lt
            obtain ⟨x5, hx5⟩ : ∃ x5, e4 + 1 = x5 := ⟨_, rfl⟩
            rw [hx5] at HN5
            have g1 : ¬ x5 ≤ e := by omega
            have g2 : ¬ e + 2 < x5 := by omega
            have g3 : IntKind.u64.wrap (e + 2) = e + 2 := IntWalk.u64_in _ (by omega)
            clear hx5 he4 HCR HOP HH5 HE5 HI
            go_wp2_with (go_at_call 16; refine HN5.out.mono ?_; rintro r w' ⟨rfl, rfl⟩)
            go_loopw [136, 6, 21, 22, 23, 137, 138, 139, 140, 141, 142, 143, 144, 145, 146] (fun i _ _ _ _ _ _ _ _ _ _ _ _ _ _ wz => ∃ j : Nat, j ≤ 8 ∧ i = .int .i64 j ∧ wz = w5) (fun i _ _ _ _ _ _ _ _ _ _ _ _ _ _ _ => 8 - (intOf i).toNat)
            case atStart => exact ⟨0, by omega, rfl, rfl⟩
            case round =>
              obtain ⟨j, hj, rfl, rfl⟩ := hrel
              by_cases hlt : j < 8
              · have hlt' : (j : Int) < 8 := by omega
                have HA8 := Lib.hid (HAN.out j hlt)
                go_wp2_with (go_at_call 21; refine HA8.out.mono ?_; rintro r w' ⟨rfl, rfl⟩)
                exact ⟨⟨j + 1, by omega, by go_num, by first | rfl | trivial⟩, by simp [intOf]; omega⟩
              · obtain rfl : j = 8 := by omega
                go_wp2
                go_ret
                exact ⟨rfl, HB5.out⟩
          · have HCR := Lib.hid (fun (cp1 : Nat) => grCrash HI.out hk C m cp1 bs HM.out (by omega) HR1.out HBS.out)
            have h8' : ¬ (8 : Int) < (m : Int) := by omega
            clear HR1
            go_upto_region 27 with (fail)
            go_upto_region 28 with (first
              | (go_at_call 28; refine (HCR.out _).mono ?_; rintro r w4 ⟨d4, t4, e4, rfl, hV4, he4, hB4⟩; have HOP := Lib.hid (grAgain hV4 (by omega)); have HB4 := Lib.hid hB4; clear hV4 hB4)
              | (go_at_call 24; refine HOP.out.mono ?_; rintro r w5 ⟨c5, S5, rfl, hE5, hc5, hH5⟩; have HE5 := Lib.hid hE5; have HH5 := Lib.hid hH5; clear hE5 hc5 hH5))
            have HB5 : Hid (Below w.heap.size w w5) := by
              have h4 := HBl.out.trans (HB4.out.mono HBl.out.size)
              exact h4.trans (HH5.out.to_below h4.size (fun b hb => by have := HBl.out.size; omega))
            have HN5 := Lib.hid (ckNow HE5.out)
            have HAN : Hid (∀ i : Nat, i < 8 → Calls Try.prog 21 #[.pointer (some ⟨c5, 0, none⟩), .int .i64 (i : Int)] w5 fun r w' => r = .returned (.tuple #[.int .u64 0, .bool false]) ∧ w5 = w') := fun i hi => ckAnnounced HE5.out i hi
            have hcl5 := HE5.out.ck.lt
            obtain ⟨x5, hx5⟩ : ∃ x5, e4 + 1 = x5 := ⟨_, rfl⟩
            rw [hx5] at HN5
            have g1 : ¬ x5 ≤ e := by omega
            have g2 : ¬ e + 2 < x5 := by omega
            have g3 : IntKind.u64.wrap (e + 2) = e + 2 := IntWalk.u64_in _ (by omega)
            clear hx5 he4 HCR HOP HH5 HE5 HI
            go_wp2_with (go_at_call 16; refine HN5.out.mono ?_; rintro r w' ⟨rfl, rfl⟩)
            go_loopw [136, 6, 21, 22, 23, 137, 138, 139, 140, 141, 142, 143, 144, 145, 146] (fun i _ _ _ _ _ _ _ _ _ _ _ _ _ _ wz => ∃ j : Nat, j ≤ 8 ∧ i = .int .i64 j ∧ wz = w5) (fun i _ _ _ _ _ _ _ _ _ _ _ _ _ _ _ => 8 - (intOf i).toNat)
            case atStart => exact ⟨0, by omega, rfl, rfl⟩
            case round =>
              obtain ⟨j, hj, rfl, rfl⟩ := hrel
              by_cases hlt : j < 8
              · have hlt' : (j : Int) < 8 := by omega
                have HA8 := Lib.hid (HAN.out j hlt)
                go_wp2_with (go_at_call 21; refine HA8.out.mono ?_; rintro r w' ⟨rfl, rfl⟩)
                exact ⟨⟨j + 1, by omega, by go_num, by first | rfl | trivial⟩, by simp [intOf]; omega⟩
              · obtain rfl : j = 8 := by omega
                go_wp2
                go_ret
                exact ⟨rfl, HB5.out⟩
        · have hi2' : ¬ (k : Int) < 15 := hi2
          go_upto_region 25 with (go_at_call 31; refine HOF.out.mono ?_; rintro r w' ⟨rfl, rfl⟩)
          clear HOF
          have HR1 := Lib.hid (HR.out.below HBl.out)
          by_cases h8 : 8 < m
          · have HCR := Lib.hid (fun (cp1 : Nat) => grCrash HI.out hk C 8 cp1 (bs.take 8) (by rw [List.length_take, HM.out]; omega) (by omega) (HR1.out.take 8) (fun x hx => HBS.out x (List.mem_of_mem_take hx)))
            have h8' : (8 : Int) < (m : Int) := by omega
            have h8c : 8 ≤ cc := by omega
            obtain ⟨b8, o8, hC8, _, _⟩ := HR.out.at_ (i := 0) (by rw [HM.out]; omega)
            subst hC8
            clear HR1
            go_upto_region 27 with (fail)
            go_upto_region 28 with (first
              | (go_at_call 28; refine (HCR.out _).mono ?_; rintro r w4 ⟨d4, t4, e4, rfl, hV4, he4, hB4⟩; have HOP := Lib.hid (grAgain hV4 (by omega)); have HB4 := Lib.hid hB4; clear hV4 hB4)
              | (go_at_call 24; refine HOP.out.mono ?_; rintro r w5 ⟨c5, S5, rfl, hE5, hc5, hH5⟩; have HE5 := Lib.hid hE5; have HH5 := Lib.hid hH5; clear hE5 hc5 hH5))
            have HB5 : Hid (Below w.heap.size w w5) := by
              have h4 := HBl.out.trans (HB4.out.mono HBl.out.size)
              exact h4.trans (HH5.out.to_below h4.size (fun b hb => by have := HBl.out.size; omega))
            have HN5 := Lib.hid (ckNow HE5.out)
            have HAN : Hid (∀ i : Nat, i < 8 → Calls Try.prog 21 #[.pointer (some ⟨c5, 0, none⟩), .int .i64 (i : Int)] w5 fun r w' => r = .returned (.tuple #[.int .u64 0, .bool false]) ∧ w5 = w') := fun i hi => ckAnnounced HE5.out i hi
            have hcl5 := HE5.out.ck.lt
            obtain ⟨x5, hx5⟩ : ∃ x5, e4 + 1 = x5 := ⟨_, rfl⟩
            rw [hx5] at HN5
            have g1 : ¬ x5 ≤ e := by omega
            have g2 : ¬ e + 2 < x5 := by omega
            have g3 : IntKind.u64.wrap (e + 2) = e + 2 := IntWalk.u64_in _ (by omega)
            clear hx5 he4 HCR HOP HH5 HE5 HI
            go_wp2_with (go_at_call 16; refine HN5.out.mono ?_; rintro r w' ⟨rfl, rfl⟩)
            go_loopw [136, 6, 21, 22, 23, 137, 138, 139, 140, 141, 142, 143, 144, 145, 146] (fun i _ _ _ _ _ _ _ _ _ _ _ _ _ _ wz => ∃ j : Nat, j ≤ 8 ∧ i = .int .i64 j ∧ wz = w5) (fun i _ _ _ _ _ _ _ _ _ _ _ _ _ _ _ => 8 - (intOf i).toNat)
            case atStart => exact ⟨0, by omega, rfl, rfl⟩
            case round =>
              obtain ⟨j, hj, rfl, rfl⟩ := hrel
              by_cases hlt : j < 8
              · have hlt' : (j : Int) < 8 := by omega
                have HA8 := Lib.hid (HAN.out j hlt)
                go_wp2_with (go_at_call 21; refine HA8.out.mono ?_; rintro r w' ⟨rfl, rfl⟩)
                exact ⟨⟨j + 1, by omega, by go_num, by first | rfl | trivial⟩, by simp [intOf]; omega⟩
              · obtain rfl : j = 8 := by omega
                go_wp2
                go_ret
                exact ⟨rfl, HB5.out⟩
          · have HCR := Lib.hid (fun (cp1 : Nat) => grCrash HI.out hk C m cp1 bs HM.out (by omega) HR1.out HBS.out)
            have h8' : ¬ (8 : Int) < (m : Int) := by omega
            clear HR1
            go_upto_region 27 with (fail)
            go_upto_region 28 with (first
              | (go_at_call 28; refine (HCR.out _).mono ?_; rintro r w4 ⟨d4, t4, e4, rfl, hV4, he4, hB4⟩; have HOP := Lib.hid (grAgain hV4 (by omega)); have HB4 := Lib.hid hB4; clear hV4 hB4)
              | (go_at_call 24; refine HOP.out.mono ?_; rintro r w5 ⟨c5, S5, rfl, hE5, hc5, hH5⟩; have HE5 := Lib.hid hE5; have HH5 := Lib.hid hH5; clear hE5 hc5 hH5))
            have HB5 : Hid (Below w.heap.size w w5) := by
              have h4 := HBl.out.trans (HB4.out.mono HBl.out.size)
              exact h4.trans (HH5.out.to_below h4.size (fun b hb => by have := HBl.out.size; omega))
            have HN5 := Lib.hid (ckNow HE5.out)
            have HAN : Hid (∀ i : Nat, i < 8 → Calls Try.prog 21 #[.pointer (some ⟨c5, 0, none⟩), .int .i64 (i : Int)] w5 fun r w' => r = .returned (.tuple #[.int .u64 0, .bool false]) ∧ w5 = w') := fun i hi => ckAnnounced HE5.out i hi
            have hcl5 := HE5.out.ck.lt
            obtain ⟨x5, hx5⟩ : ∃ x5, e4 + 1 = x5 := ⟨_, rfl⟩
            rw [hx5] at HN5
            have g1 : ¬ x5 ≤ e := by omega
            have g2 : ¬ e + 2 < x5 := by omega
            have g3 : IntKind.u64.wrap (e + 2) = e + 2 := IntWalk.u64_in _ (by omega)
            clear hx5 he4 HCR HOP HH5 HE5 HI
            go_wp2_with (go_at_call 16; refine HN5.out.mono ?_; rintro r w' ⟨rfl, rfl⟩)
            go_loopw [136, 6, 21, 22, 23, 137, 138, 139, 140, 141, 142, 143, 144, 145, 146] (fun i _ _ _ _ _ _ _ _ _ _ _ _ _ _ wz => ∃ j : Nat, j ≤ 8 ∧ i = .int .i64 j ∧ wz = w5) (fun i _ _ _ _ _ _ _ _ _ _ _ _ _ _ _ => 8 - (intOf i).toNat)
            case atStart => exact ⟨0, by omega, rfl, rfl⟩
            case round =>
              obtain ⟨j, hj, rfl, rfl⟩ := hrel
              by_cases hlt : j < 8
              · have hlt' : (j : Int) < 8 := by omega
                have HA8 := Lib.hid (HAN.out j hlt)
                go_wp2_with (go_at_call 21; refine HA8.out.mono ?_; rintro r w' ⟨rfl, rfl⟩)
                exact ⟨⟨j + 1, by omega, by go_num, by first | rfl | trivial⟩, by simp [intOf]; omega⟩
              · obtain rfl : j = 8 := by omega
                go_wp2
                go_ret
                exact ⟨rfl, HB5.out⟩
      · have hi1' : ¬ (k : Int) < (n : Int) := hi1
        go_upto_region 25 with (go_at_call 31; refine HOF.out.mono ?_; rintro r w' ⟨rfl, rfl⟩)
        clear HOF
        have HR1 := Lib.hid (HR.out.below HBl.out)
        by_cases h8 : 8 < m
        · have HCR := Lib.hid (fun (cp1 : Nat) => grCrash HI.out hk C 8 cp1 (bs.take 8) (by rw [List.length_take, HM.out]; omega) (by omega) (HR1.out.take 8) (fun x hx => HBS.out x (List.mem_of_mem_take hx)))
          have h8' : (8 : Int) < (m : Int) := by omega
          have h8c : 8 ≤ cc := by omega
          obtain ⟨b8, o8, hC8, _, _⟩ := HR.out.at_ (i := 0) (by rw [HM.out]; omega)
          subst hC8
          clear HR1
          go_upto_region 27 with (fail)
          go_upto_region 28 with (first
            | (go_at_call 28; refine (HCR.out _).mono ?_; rintro r w4 ⟨d4, t4, e4, rfl, hV4, he4, hB4⟩; have HOP := Lib.hid (grAgain hV4 (by omega)); have HB4 := Lib.hid hB4; clear hV4 hB4)
            | (go_at_call 24; refine HOP.out.mono ?_; rintro r w5 ⟨c5, S5, rfl, hE5, hc5, hH5⟩; have HE5 := Lib.hid hE5; have HH5 := Lib.hid hH5; clear hE5 hc5 hH5))
          have HB5 : Hid (Below w.heap.size w w5) := by
            have h4 := HBl.out.trans (HB4.out.mono HBl.out.size)
            exact h4.trans (HH5.out.to_below h4.size (fun b hb => by have := HBl.out.size; omega))
          have HN5 := Lib.hid (ckNow HE5.out)
          have HAN : Hid (∀ i : Nat, i < 8 → Calls Try.prog 21 #[.pointer (some ⟨c5, 0, none⟩), .int .i64 (i : Int)] w5 fun r w' => r = .returned (.tuple #[.int .u64 0, .bool false]) ∧ w5 = w') := fun i hi => ckAnnounced HE5.out i hi
          have hcl5 := HE5.out.ck.lt
          obtain ⟨x5, hx5⟩ : ∃ x5, e4 + 1 = x5 := ⟨_, rfl⟩
          rw [hx5] at HN5
          have g1 : ¬ x5 ≤ e := by omega
          have g2 : ¬ e + 2 < x5 := by omega
          have g3 : IntKind.u64.wrap (e + 2) = e + 2 := IntWalk.u64_in _ (by omega)
          clear hx5 he4 HCR HOP HH5 HE5 HI
          go_wp2_with (go_at_call 16; refine HN5.out.mono ?_; rintro r w' ⟨rfl, rfl⟩)
          go_loopw [136, 6, 21, 22, 23, 137, 138, 139, 140, 141, 142, 143, 144, 145, 146] (fun i _ _ _ _ _ _ _ _ _ _ _ _ _ _ wz => ∃ j : Nat, j ≤ 8 ∧ i = .int .i64 j ∧ wz = w5) (fun i _ _ _ _ _ _ _ _ _ _ _ _ _ _ _ => 8 - (intOf i).toNat)
          case atStart => exact ⟨0, by omega, rfl, rfl⟩
          case round =>
            obtain ⟨j, hj, rfl, rfl⟩ := hrel
            by_cases hlt : j < 8
            · have hlt' : (j : Int) < 8 := by omega
              have HA8 := Lib.hid (HAN.out j hlt)
              go_wp2_with (go_at_call 21; refine HA8.out.mono ?_; rintro r w' ⟨rfl, rfl⟩)
              exact ⟨⟨j + 1, by omega, by go_num, by first | rfl | trivial⟩, by simp [intOf]; omega⟩
            · obtain rfl : j = 8 := by omega
              go_wp2
              go_ret
              exact ⟨rfl, HB5.out⟩
        · have HCR := Lib.hid (fun (cp1 : Nat) => grCrash HI.out hk C m cp1 bs HM.out (by omega) HR1.out HBS.out)
          have h8' : ¬ (8 : Int) < (m : Int) := by omega
          clear HR1
          go_upto_region 27 with (fail)
          go_upto_region 28 with (first
            | (go_at_call 28; refine (HCR.out _).mono ?_; rintro r w4 ⟨d4, t4, e4, rfl, hV4, he4, hB4⟩; have HOP := Lib.hid (grAgain hV4 (by omega)); have HB4 := Lib.hid hB4; clear hV4 hB4)
            | (go_at_call 24; refine HOP.out.mono ?_; rintro r w5 ⟨c5, S5, rfl, hE5, hc5, hH5⟩; have HE5 := Lib.hid hE5; have HH5 := Lib.hid hH5; clear hE5 hc5 hH5))
          have HB5 : Hid (Below w.heap.size w w5) := by
            have h4 := HBl.out.trans (HB4.out.mono HBl.out.size)
            exact h4.trans (HH5.out.to_below h4.size (fun b hb => by have := HBl.out.size; omega))
          have HN5 := Lib.hid (ckNow HE5.out)
          have HAN : Hid (∀ i : Nat, i < 8 → Calls Try.prog 21 #[.pointer (some ⟨c5, 0, none⟩), .int .i64 (i : Int)] w5 fun r w' => r = .returned (.tuple #[.int .u64 0, .bool false]) ∧ w5 = w') := fun i hi => ckAnnounced HE5.out i hi
          have hcl5 := HE5.out.ck.lt
          obtain ⟨x5, hx5⟩ : ∃ x5, e4 + 1 = x5 := ⟨_, rfl⟩
          rw [hx5] at HN5
          have g1 : ¬ x5 ≤ e := by omega
          have g2 : ¬ e + 2 < x5 := by omega
          have g3 : IntKind.u64.wrap (e + 2) = e + 2 := IntWalk.u64_in _ (by omega)
          clear hx5 he4 HCR HOP HH5 HE5 HI
          go_wp2_with (go_at_call 16; refine HN5.out.mono ?_; rintro r w' ⟨rfl, rfl⟩)
          go_loopw [136, 6, 21, 22, 23, 137, 138, 139, 140, 141, 142, 143, 144, 145, 146] (fun i _ _ _ _ _ _ _ _ _ _ _ _ _ _ wz => ∃ j : Nat, j ≤ 8 ∧ i = .int .i64 j ∧ wz = w5) (fun i _ _ _ _ _ _ _ _ _ _ _ _ _ _ _ => 8 - (intOf i).toNat)
          case atStart => exact ⟨0, by omega, rfl, rfl⟩
          case round =>
            obtain ⟨j, hj, rfl, rfl⟩ := hrel
            by_cases hlt : j < 8
            · have hlt' : (j : Int) < 8 := by omega
              have HA8 := Lib.hid (HAN.out j hlt)
              go_wp2_with (go_at_call 21; refine HA8.out.mono ?_; rintro r w' ⟨rfl, rfl⟩)
              exact ⟨⟨j + 1, by omega, by go_num, by first | rfl | trivial⟩, by simp [intOf]; omega⟩
            · obtain rfl : j = 8 := by omega
              go_wp2
              go_ret
              exact ⟨rfl, HB5.out⟩
end Go.Proofs.Ytljolgcmkejlnaa
