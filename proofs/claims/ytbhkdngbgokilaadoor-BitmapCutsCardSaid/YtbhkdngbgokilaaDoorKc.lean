/- A word that is persistent, a cut program of one store, and the law BitmapCuts (merged). -/
import Derived.Test.YtbhkdngbgokilaaDoorKs
import Derived.Test.YtbhkdngbgokilaaDoorKr
import Derived.Test.YtbhkdngbgokilaaDoorDevV
import Derived.Test.YtbhkdngbgokilaaDoorBmK
import Derived.Test.YtbhkdngbgokilaaDoorKb
namespace Go.Proofs.YtbhkdngbgokilaaDoor
open Go.RowKit
set_option linter.unusedVariables false

theorem cnt_pers (S : DevS) (i : Nat) (b : Bool) : (S.cnt i b).pers = S.pers := by
  unfold DevS.cnt DevS.on DevS.fail DevS.setErr
  repeat' split
  all_goals rfl
theorem fail_all (S : DevS) (i : Nat) (e : Int) : (S.fail i e).pers = S.pers ∧ (S.fail i e).lns = S.lns ∧ (S.fail i e).off = S.off := by
  unfold DevS.fail DevS.setErr
  split <;> exact ⟨rfl, rfl, rfl⟩
/-- All words fit. -/
structure FitS (S : DevS) : Prop where
  pers : Fits S.pers
  hist : ∀ (q : Nat) (l : Ln), S.lns[q]? = some l → ∀ p ∈ l.hist, 0 ≤ p.2 ∧ p.2 < 18446744073709551616
section
variable {S S' : DevS}
theorem FitS.same (h : FitS S) (h1 : S'.pers = S.pers) (h2 : S'.lns = S.lns) : FitS S' := ⟨by rw [h1]; exact h.pers, by rw [h2]; exact h.hist⟩
theorem FitS.write (h : FitS S) (k : Nat) (v : Int) (hv : 0 ≤ v ∧ v < 18446744073709551616) : FitS (S.write k v) := by
  refine ⟨h.pers, fun q l hl p hp => ?_⟩
  simp only [DevS.write, List.getElem?_modify] at hl
  obtain ⟨l0, h0, h1⟩ := Option.map_eq_some_iff.1 hl
  split at h1
  · subst h1
    rcases List.mem_append.1 hp with hp | hp
    · exact h.hist q l0 h0 p hp
    · have : p = (8 * (k : Int), v) := by simpa using hp
      subst this; exact hv
  · have : l0 = l := by simpa using h1
    subst this; exact h.hist q l0 h0 p hp
theorem FitS.upto (h : FitS S) (K : Nat → Nat) : FitS (S.upto K) := by
  refine ⟨fun x hx => ?_, fun q l hl p hp => ?_⟩
  · obtain ⟨j, hj, rfl⟩ := List.getElem_of_mem hx
    have hj' : j < S.pers.length := by rwa [(length_upto _).1] at hj
    have h1 := upto_pers K j hj'
    rw [List.getElem?_eq_getElem hj] at h1
    have hf : Fits (applyW S.pers (((S.lns[j / 8]?.map (·.hist)).getD []).take (K (j / 8)))) := by
      refine fits_applyW _ (fun p hp => ?_) _ h.pers
      have hp := List.mem_of_mem_take hp
      cases hl : S.lns[j / 8]? with
      | none => rw [hl] at hp; simp at hp
      | some l => rw [hl] at hp; exact h.hist _ l hl p (by simpa using hp)
    exact hf _ (List.mem_of_getElem? h1.symm)
  · rw [upto_ln] at hl
    obtain ⟨l0, h0, rfl⟩ := Option.map_eq_some_iff.1 hl
    exact h.hist q l0 h0 p (List.mem_of_mem_drop hp)
theorem FitS.exec1 (h : FitS S) (i : Nat) (p : Ins) (hp : 0 ≤ p.2.2 ∧ p.2.2 < 18446744073709551616) : FitS (S.exec1 i p) := by
  have hc : ∀ b, FitS (S.cnt i b) := fun b => h.same (cnt_pers S i b) (cnt_lns S i b).1
  unfold DevS.exec1
  split
  · unfold DevS.store
    split
    · exact (hc _).write _ _ hp
    · exact hc _
  · split
    · unfold DevS.flush
      split
      · exact (hc _).same rfl rfl
      · exact hc _
    · unfold DevS.fence
      split
      · exact ((hc _).upto _).same rfl rfl
      · exact hc _
theorem FitS.runP (i : Nat) : ∀ (ps : List Ins) {S : DevS}, FitS S → (∀ p ∈ ps, 0 ≤ p.2.2 ∧ p.2.2 < 18446744073709551616) → FitS (S.runP i ps) := by
  intro ps
  induction ps with
  | nil => intro S h _; exact h
  | cons p ps ih => intro S h hp; exact ih (h.exec1 i p (hp p List.mem_cons_self)) (fun q hq => hp q (List.mem_cons_of_mem _ hq))
theorem cnt_off (ho : S.off = true) (i : Nat) (b : Bool) : S.cntB b = false ∧ S.cnt i b = S.fail i 3 := by
  simp [DevS.cntB, DevS.cnt, DevS.onB, DevS.on, ho]
/-- Without power nothing is executed. -/
theorem off_exec1 (ho : S.off = true) (i : Nat) (p : Ins) : (S.exec1 i p).off = true ∧ (S.exec1 i p).pers = S.pers ∧ (S.exec1 i p).lns = S.lns := by
  have hf := fail_all S i 3
  have hx : ∀ b, (S.cnt i b).off = true ∧ (S.cnt i b).pers = S.pers ∧ (S.cnt i b).lns = S.lns := fun b => by
    rw [(cnt_off ho i b).2]; exact ⟨hf.2.2.trans ho, hf.1, hf.2.1⟩
  unfold DevS.exec1 DevS.store DevS.flush DevS.fence
  simp only [(cnt_off ho i _).1, Bool.false_eq_true, if_false]
  split
  · exact hx _
  · split
    · exact hx _
    · exact hx _
theorem cnt_cut (ho : S.off = false) (ha : S.armed = true) (hl : S.left = 0) (i : Nat) : S.cntB true = false ∧ (S.cnt i true).off = true ∧ (S.cnt i true).pers = S.pers ∧ (S.cnt i true).lns = S.lns := by
  refine ⟨by simp [DevS.cntB, DevS.onB, ho, ha, hl], ?_, cnt_pers S i true, (cnt_lns S i true).1⟩
  have : S.cnt i true = DevS.fail { S with off := true } i 3 := by simp [DevS.cnt, DevS.onB, ho, ha, hl]
  rw [this]
  exact (fail_all _ i 3).2.2
theorem cnt_go (ho : S.off = false) (ha : S.armed = true) (hl : S.left ≠ 0) (i : Nat) : S.cntB true = true ∧ S.cnt i true = { S with left := S.left - 1, exec := IntKind.u64.wrap (S.exec + 1) } := by
  simp [DevS.cntB, DevS.cnt, DevS.onB, ho, ha, hl]
/-- The power fails at an instruction. -/
theorem cut_exec1 (ho : S.off = false) (ha : S.armed = true) (hl : S.left = 0) (hn : S.lns.length = 12) (i : Nat) (p : Ins) (hp : p.2.1 = 64 ∨ p.1 = 3) : (S.exec1 i p).off = true ∧ (S.exec1 i p).pers = S.pers ∧ (S.exec1 i p).lns = S.lns := by
  have hx := cnt_cut ho ha hl i
  unfold DevS.exec1 DevS.store DevS.flush DevS.fence
  rcases hp with hp | hp
  · have hw : S.wordB p.2.1 = true := by rw [hp]; simp [DevS.wordB, hn]
    have hi : S.inB p.2.1 = true := by rw [hp]; simp [DevS.inB, hn]
    rw [hw, hi, hx.1]
    simp only [Bool.false_eq_true, if_false]
    split
    · exact hx.2
    · split <;> exact hx.2
  · rw [hp, hx.1]
    simp
    exact hx.2
/-- Line 1's word 8, and what of it is not persistent. -/
structure CS (S : DevS) (a : Int) (h : List (Int × Int)) : Prop where
  np : S.pers.length = 96
  p8 : S.pers[8]? = some a
  hist : (S.lns[1]?.map (·.hist)) = some h
theorem CS.same {a : Int} {l : List (Int × Int)} (h : CS S a l) (h1 : S'.pers = S.pers) (h2 : S'.lns = S.lns) : CS S' a l := ⟨by rw [h1]; exact h.np, by rw [h1]; exact h.p8, by rw [h2]; exact h.hist⟩
/-- The word in a crash image. -/
theorem CS.image {a : Int} {l : List (Int × Int)} (h : CS S a l) (K : Nat → Nat) : (S.upto K).pers[8]? = (applyW S.pers (l.take (K 1)))[8]? := by
  have h1 := upto_pers (S := S) K 8 (by rw [h.np]; omega)
  have h2 : (S.lns[1]?.map (·.hist)) = some l := h.hist
  have h3 : (S.upto K).pers[8]? = (applyW S.pers (((S.lns[1]?.map (·.hist)).getD []).take (K 1)))[8]? := h1
  rw [h3, h2]
  rfl
end
/-- What a cut program of one store leaves. -/
theorem cut_run (S : DevS) (N : Nat) (hG : Good S N) (hN : N < 1000000) (hl : S.lns.length = 12) (ho : S.off = false) (v want : Int) (hC : CS S v []) (hn : ∀ x, (S.thr 0).notes x = none) (k : Nat) :
    ∃ a h, CS ((S.arm k).runP 0 (storesP [(64, want)])) a h ∧ ((a = v ∧ h = []) ∨ (a = v ∧ h = [(64, want)]) ∨ (a = want ∧ h = [])) ∧ (((S.arm k).runP 0 (storesP [(64, want)])).off = false → a = want ∧ h = []) := by
  have hP : storesP [((64 : Int), want)] = [(1, 64, want), (2, 64, 0), (3, 0, 0)] := by
    have : startOf 64 = 64 := by decide
    simp [storesP, insSt, insFl, starts, cpt, this]
  have hA : S.arm k = { S with armed := true, left := (k : Int) } := by
    unfold DevS.arm
    rw [ho]
    have h1 : imax (k : Int) 0 = (k : Int) := by unfold imax; rw [if_neg (by omega)]
    simp [h1]
  rw [hP, hA]
  show ∃ a h, CS (((({ S with armed := true, left := (k : Int) } : DevS).exec1 0 (1, 64, want)).exec1 0 (2, 64, 0)).exec1 0 (3, 0, 0)) a h ∧ _ ∧ ((((({ S with armed := true, left := (k : Int) } : DevS).exec1 0 (1, 64, want)).exec1 0 (2, 64, 0)).exec1 0 (3, 0, 0)).off = false → _)
  obtain ⟨A, hAe⟩ : ∃ A : DevS, ({ S with armed := true, left := (k : Int) } : DevS) = A := ⟨_, rfl⟩
  have a1 : A.off = false := by rw [← hAe]; exact ho
  have a2 : A.armed = true := by rw [← hAe]
  have a3 : A.left = (k : Int) := by rw [← hAe]
  have a4 : A.lns.length = 12 := by rw [← hAe]; exact hl
  have a5 : CS A v [] := by rw [← hAe]; exact hC.same rfl rfl
  have a6 : ∀ x, (A.thr 0).notes x = none := by rw [← hAe]; exact hn
  have a7 : Good A N := by rw [← hAe]; exact hG.ctr _ _ _ _
  rw [hAe]
  clear hAe hA hP
  by_cases k0 : k = 0
  · obtain ⟨b1, b2, b3⟩ := cut_exec1 a1 a2 (by rw [a3, k0]; rfl) a4 0 (1, 64, want) (.inl rfl)
    obtain ⟨c1, c2, c3⟩ := off_exec1 b1 0 (2, 64, 0)
    obtain ⟨d1, d2, d3⟩ := off_exec1 c1 0 (3, 0, 0)
    exact ⟨v, [], a5.same (d2.trans (c2.trans b2)) (d3.trans (c3.trans b3)), .inl ⟨rfl, rfl⟩, fun h => by rw [d1] at h; cases h⟩
  · obtain ⟨e1, e2⟩ := cnt_go a1 a2 (by rw [a3]; omega) 0
    have hw : A.wordB 64 = true := by simp [DevS.wordB, a4]
    have hS1 : A.exec1 0 (1, 64, want) = ({ A with left := A.left - 1, exec := IntKind.u64.wrap (A.exec + 1) } : DevS).write 8 want := by
      simp only [DevS.exec1, DevS.store, if_true, hw, e1, e2]
      rfl
    have g1 : Good (A.exec1 0 (1, 64, want)) (N + 1) := a7.exec1 (by omega) _ (show (0 : Int) ≤ 64 by decide) (by omega)
    rw [hS1] at g1 ⊢
    obtain ⟨B, hB⟩ : ∃ B : DevS, ({ A with left := A.left - 1, exec := IntKind.u64.wrap (A.exec + 1) } : DevS).write 8 want = B := ⟨_, rfl⟩
    have b1 : B.off = false := by rw [← hB]; exact a1
    have b2 : B.armed = true := by rw [← hB]; exact a2
    have b3 : B.left = (k : Int) - 1 := by rw [← hB, ← a3]; rfl
    have b4 : B.lns.length = 12 := by rw [← hB]; simpa [DevS.write] using a4
    have b5 : CS B v [(64, want)] := by
      refine ⟨by rw [← hB]; exact a5.np, by rw [← hB]; exact a5.p8, ?_⟩
      have h1 := a5.hist
      rw [← hB]
      obtain ⟨l, hl1, hl2⟩ := Option.map_eq_some_iff.1 h1
      simp [DevS.write, hl1, hl2]
    have b6 : ∀ x, (B.thr 0).notes x = none := by rw [← hB]; exact a6
    rw [hB] at g1 ⊢
    clear hB hS1
    by_cases k1 : k = 1
    · obtain ⟨c1, c2, c3⟩ := cut_exec1 b1 b2 (by rw [b3, k1]; rfl) b4 0 (2, 64, 0) (.inl rfl)
      obtain ⟨d1, d2, d3⟩ := off_exec1 c1 0 (3, 0, 0)
      exact ⟨v, [(64, want)], b5.same (d2.trans c2) (d3.trans c3), .inr (.inl ⟨rfl, rfl⟩), fun h => by rw [d1] at h; cases h⟩
    · obtain ⟨e3, e4⟩ := cnt_go b1 b2 (by rw [b3]; omega) 0
      have hi : B.inB 64 = true := by simp [DevS.inB, b4]
      have hS2 : B.exec1 0 (2, 64, 0) = ({ B with left := B.left - 1, exec := IntKind.u64.wrap (B.exec + 1) } : DevS).note 0 1 := by
        simp only [DevS.exec1, DevS.flush, hi, e3, e4]
        rfl
      have g2 : Good (B.exec1 0 (2, 64, 0)) (N + 1 + 1) := g1.exec1 (by omega) _ (by decide) (by omega)
      rw [hS2] at g2 ⊢
      obtain ⟨C, hCe⟩ : ∃ C : DevS, ({ B with left := B.left - 1, exec := IntKind.u64.wrap (B.exec + 1) } : DevS).note 0 1 = C := ⟨_, rfl⟩
      have c1 : C.off = false := by rw [← hCe]; exact b1
      have c2 : C.armed = true := by rw [← hCe]; exact b2
      have c3 : C.left = (k : Int) - 1 - 1 := by rw [← hCe, ← b3]; rfl
      have c4 : C.lns.length = 12 := by rw [← hCe]; exact b4
      have c5 : CS C v [(64, want)] := by rw [← hCe]; exact b5.same rfl rfl
      obtain ⟨l, hl1, hl2⟩ := Option.map_eq_some_iff.1 b5.hist
      have c6 : (C.thr 0).notes 1 = some (l.done + 1) := by
        obtain ⟨r1, r2, _⟩ := g1.ln 1 l hl1
        have hw2 : IntKind.u64.wrap (l.done + (l.hist.length : Int)) = l.done + 1 := by
          rw [hl2]
          rw [hl2] at r2
          exact IntWalk.u64_in _ (by simp at r2 ⊢; omega)
        rw [← hCe]
        simp [DevS.note, hl1, hw2]
      have c7 : C.lns[1]? = some l := by rw [← hCe]; exact hl1
      rw [hCe] at g2 ⊢
      clear hCe hS2
      by_cases k2 : k = 2
      · obtain ⟨d1, d2, d3⟩ := cut_exec1 c1 c2 (by rw [c3, k2]; rfl) c4 0 (3, 0, 0) (.inr rfl)
        exact ⟨v, [(64, want)], c5.same d2 d3, .inr (.inl ⟨rfl, rfl⟩), fun h => by rw [d1] at h; cases h⟩
      · obtain ⟨e5, e6⟩ := cnt_go c1 c2 (by rw [c3]; omega) 0
        obtain ⟨Z, hZ⟩ : ∃ Z : DevS, ({ C with left := C.left - 1, exec := IntKind.u64.wrap (C.exec + 1) } : DevS) = Z := ⟨_, rfl⟩
        have hS3 : C.exec1 0 (3, 0, 0) = (Z.upto (Z.due 0)).clearN 0 := by
          simp only [DevS.exec1, DevS.fence, e5, e6, hZ]
          rfl
        have z5 : CS Z v [(64, want)] := by rw [← hZ]; exact c5.same rfl rfl
        have z7 : Z.lns[1]? = some l := by rw [← hZ]; exact c7
        have z6 : Z.due 0 1 = 1 := by
          have : (Z.thr 0).notes ((1 : Nat) : Int) = some (l.done + 1) := by rw [← hZ]; exact c6
          unfold DevS.due
          rw [this, z7]
          simp
          omega
        rw [hS3]
        refine ⟨want, [], ⟨?_, ?_, ?_⟩, .inr (.inr ⟨rfl, rfl⟩), fun _ => ⟨rfl, rfl⟩⟩
        · show (Z.upto (Z.due 0)).pers.length = 96
          rw [(length_upto _).1]; exact z5.np
        · show (Z.upto (Z.due 0)).pers[8]? = some want
          rw [z5.image, z6]
          simp only [List.take_succ_cons, List.take_zero, applyW, List.foldl_cons, List.foldl_nil]
          rw [List.getElem?_set, if_pos (by decide), if_pos (by rw [z5.np]; omega)]
        · show (Z.upto (Z.due 0)).lns[1]?.map (·.hist) = some []
          rw [upto_ln, z7]
          simp [z6, hl2]
/-- Line 1 is made persistent. -/
theorem persist_word {S : DevS} {N : Nat} {xs0 : List Int} {ws : List (Int × Int)} (h : Mid S 0 12 xs0 ws [] N) (hN : N + 2 < 1000000) (hw : ∀ p ∈ ws, 0 ≤ p.1) (hx : xs0.length = 96) :
    On (S.runP 0 [(2, 64, 0), (3, 0, 0)]) 12 (applyW xs0 ws) (N + 2) ∧ (∀ v, (applyW xs0 ws)[8]? = some v → CS (S.runP 0 [(2, 64, 0), (3, 0, 0)]) v []) ∧ ∀ x, ((S.runP 0 [(2, 64, 0), (3, 0, 0)]).thr 0).notes x = none := by
  have h1 := h.flush (q := 1) (by omega) (by omega)
  have hr : S.runP 0 [(2, 64, 0), (3, 0, 0)] = (S.flush 0 64).fence 0 := rfl
  have e64 : (64 : Int) * ((1 : Nat) : Int) = 64 := by decide
  rw [e64, List.nil_append] at h1
  rw [hr]
  obtain ⟨B, hB⟩ : ∃ B, S.flush 0 64 = B := ⟨_, rfl⟩
  rw [hB] at h1
  rw [hB]
  have hG := (h1.good.fence (i := 0) (by omega) (by omega)).mono (Nat.le_succ (N + 1))
  obtain ⟨c1, c2⟩ := cnt_ok (i := 0) h1.off h1.armed
  have hE : B.fence 0 = ((({ B with exec := IntKind.u64.wrap (B.exec + 1) } : DevS).upto (({ B with exec := IntKind.u64.wrap (B.exec + 1) } : DevS).due 0))).clearN 0 := by
    unfold DevS.fence; rw [c1, if_pos rfl, c2]
  rw [hE] at hG ⊢
  obtain ⟨T, hT⟩ : ∃ T : DevS, T = { B with exec := IntKind.u64.wrap (B.exec + 1) } := ⟨_, rfl⟩
  have hTl : T.lns = B.lns := by rw [hT]
  have hTt : T.thr = B.thr := by rw [hT]
  have hTp : T.pers = xs0 := by rw [hT]; exact h1.pers
  have hTc : T.cur = applyW xs0 ws := by rw [hT]; exact h1.cur
  rw [← hT] at hG ⊢
  have hlt : 1 < B.lns.length := by rw [h1.nl]; omega
  obtain ⟨l, hl⟩ : ∃ l, B.lns[1]? = some l := ⟨_, List.getElem?_eq_getElem hlt⟩
  have hdue : T.due 0 1 = l.hist.length := by
    obtain ⟨a1, a2, _⟩ := h1.good.ln 1 l hl
    unfold DevS.due
    rw [hTt, hTl, hl, h1.note 1 l hl (by simp)]
    simp
    omega
  refine ⟨⟨hG, ?_, hTc, by rw [hT]; exact h1.off, by rw [hT]; exact h1.armed, fun j => ?_⟩, fun v hv => ⟨?_, ?_, ?_⟩, fun x => ?_⟩
  · show (T.upto (T.due 0)).lns.length = 12
    rw [(length_upto _).2, hTl]; exact h1.nl
  · show (((T.upto (T.due 0)).clearN 0).thr j).err = 0
    have e1 : ((T.upto (T.due 0)).thr) = B.thr := hTt
    by_cases hj : j = 0
    · subst hj; simp [DevS.clearN, e1, h1.err]
    · simp [DevS.clearN, hj, e1, h1.err]
  · show (T.upto (T.due 0)).pers.length = 96
    rw [(length_upto _).1, hTp]; exact hx
  · show (T.upto (T.due 0)).pers[8]? = some v
    rw [upto_pers _ 8 (by rw [hTp, hx]; omega), hTp, hTl, show (8 / 8 : Nat) = 1 from rfl, hl, hdue]
    simp only [Option.map_some, Option.getD_some, List.take_length]
    rw [h1.hist 1 l hl]
    exact (applyW_filter 8 ws xs0 hw).trans hv
  · show (T.upto (T.due 0)).lns[1]?.map (·.hist) = some []
    rw [upto_ln, hTl, hl]
    simp [hdue]
  · simp [DevS.clearN]
end Go.Proofs.YtbhkdngbgokilaaDoor

namespace Go.Proofs.YtbhkdngbgokilaaDoor
open Go.RowKit
set_option linter.unusedVariables false

theorem run_make_ins2 (w : World) : (Instr.makeSlice 67 (.int .i64 0) (.int .u64 2)).run Tryd.prog w = .ok (.slice (some ⟨w.heap.size, 0, none⟩) 0 2) (w.alloc (.cells #[.int .u8 0, .int .u64 0, .int .u64 0, .int .u8 0, .int .u64 0, .int .u64 0] 100)) := by kernel_rfl
set_option maxRecDepth 100000 in
set_option maxHeartbeats 2000000 in
theorem memPersist1 (w : World) : Calls Tryd.prog 30 #[.int .u64 64, .int .i64 1] w (StoPost w [(2, 64, 0), (3, 0, 0)]) := by
  have hmk := fun W => run_make_ins2 W
  have HST : Hid (∀ W, Calls Tryd.prog 49 #[.int .u64 64] W fun e w' => e = .returned (.int .u64 64) ∧ W = w') := fun W => memStart W 64 (by omega)
  have HS0 : Hid (Sl 100 3 (w.alloc (.cells #[.int .u8 0, .int .u64 0, .int .u64 0, .int .u8 0, .int .u64 0, .int .u64 0] 100)) (some ⟨w.heap.size, 0, none⟩) 0 2 (pcells ([((2 : Int), (64 : Int), (0 : Int))].take 0))) :=
    ⟨rfl, .inr ⟨w.heap.size, 0, _, rfl, CB.new w _ _, by omega, by unfold maxLen; omega, by simp, rfl⟩⟩
  go_enter Tryd.func30, Tryd.ntmps30
  go_wp2_with (go_at_call 49; refine (HST.out _).mono ?_; rintro e w' ⟨rfl, rfl⟩)
  clear hmk
  go_loopw [42, 8, 9, 43, 44, 45, 46, 47, 48, 49, 50, 51, 52, 53, 54] (fun i s _ _ _ _ _ _ _ _ _ _ _ _ _ wr => ∃ (k : Nat) (A : Option Addr) (c : Nat), k ≤ 1 ∧ i = .int .u64 k ∧ s = .slice A k c ∧ Sl 100 3 wr A k c (pcells ([((2 : Int), (64 : Int), (0 : Int))].take k)) ∧ (∀ b, OwnB A b → w.heap.size ≤ b) ∧ Below w.heap.size w wr) (fun i _ _ _ _ _ _ _ _ _ _ _ _ _ _ _ => 1 - (intOf i).toNat)
  case atStart => exact ⟨0, _, 2, by omega, rfl, rfl, HS0.out, fun b hb => by simp [OwnB] at hb; omega, bl_alloc (Below.refl _ _) _⟩
  case round =>
    obtain ⟨k, A, c, hk, rfl, rfl, hS, hO, hB⟩ := hrel
    have HS := Lib.hid hS
    have HO := Lib.hid hO
    have HB := Lib.hid hB
    clear hS hO hB HS0
    by_cases hlt : k < 1
    · obtain rfl : k = 0 := by omega
      go_wp2_with (first
        | (go_at_call 49; refine (HST.out _).mono ?_; rintro e w' ⟨rfl, rfl⟩)
        | (at_builtin; refine wpList_append_sl rfl (.tmp 45) (.tmp 52) 67 rfl 100 (.agg #[.int .u8 0, .int .u64 0, .int .u64 0]) 3 24 rfl (by omega) Tryd.underlying67 info_instr (by omega) A 0 c (pcells ([((2 : Int), (64 : Int), (0 : Int))].take 0)) ⟨wr.heap.size, 0, none⟩ 1 1 [.int .u8 2, .int .u64 64, .int .u64 0] rfl rfl (HS.out.keep (fun b hb => Below.heap_alloc _ _ _ (HS.out.lt hb))) rfl (by omega) (cells_three wr 100 _ _ _) (ins_one _ _ _) (by omega) ?_; intro A2 c2 w2 HO2 HC2 HW2 HG2))
      refine ⟨⟨1, A2, c2, by omega, rfl, rfl, HO2.out, ?_, bl_ch (bl_alloc HB.out _) HC2.out (fun b hb => HO.out b hb)⟩, by simp [intOf]⟩
      intro b hb
      rcases HW2.out b hb with h | h
      · exact HO.out b h
      · have := HB.out.size; simp at h; omega
    · obtain rfl : k = 1 := by omega
      go_wp2_with (at_builtin; refine wpList_append_sl rfl (.tmp 55) (.tmp 57) 67 rfl 100 (.agg #[.int .u8 0, .int .u64 0, .int .u64 0]) 3 24 rfl (by omega) Tryd.underlying67 info_instr (by omega) A 1 c (pcells ([((2 : Int), (64 : Int), (0 : Int))].take 1)) ⟨wr.heap.size, 0, none⟩ 1 1 [.int .u8 3, .int .u64 0, .int .u64 0] rfl rfl (HS.out.keep (fun b hb => Below.heap_alloc _ _ _ (HS.out.lt hb))) rfl (by omega) (cells_three wr 100 _ _ _) (ins_one _ _ _) (by omega) ?_; intro A2 c2 w2 HO2 HC2 HW2 HG2)
      go_ret
      refine ⟨A2, c2, rfl, HO2.out, bl_ch (bl_alloc HB.out _) HC2.out (fun b hb => HO.out b hb), ?_⟩
      intro b hb
      rcases HW2.out b hb with h | h
      · exact HO.out b h
      · have := HB.out.size; simp at h; omega
set_option maxRecDepth 100000 in
theorem memStores_zero (w : World) (A : Option Addr) (c : Nat) : Calls Tryd.prog 33 #[.slice A 0 c] w fun e w' => e = .returned (.slice none 0 0) ∧ w = w' := by
  go_enter Tryd.func33, Tryd.ntmps33
  go_wp2
  go_ret
  exact ⟨rfl, rfl⟩
end Go.Proofs.YtbhkdngbgokilaaDoor

namespace Go.Proofs.YtbhkdngbgokilaaDoor
open Go.RowKit
set_option linter.unusedVariables false

def layM (ws : List Int) (k : Nat) : List (Int × Int) := (List.range k).map fun j => (8 * ((8 + j : Nat) : Int), ws[j]?.getD 0)
theorem layM_step (ws : List Int) (k : Nat) : layM ws (k + 1) = layM ws k ++ [(8 * ((8 + k : Nat) : Int), ws[k]?.getD 0)] := by simp [layM, List.range_succ]
theorem layM_pos (ws : List Int) (k : Nat) : ∀ p ∈ layM ws k, 0 ≤ p.1 := by
  intro p hp
  obtain ⟨j, _, rfl⟩ := List.mem_map.1 hp
  show 0 ≤ 8 * ((8 + j : Nat) : Int)
  omega
theorem new_mid (n : Nat) : Mid (newS (List.replicate (8 * n) 0) n) 0 n (List.replicate (8 * n) 0) [] [] 0 := by
  refine ⟨(new_on _ n (by simp)).good, by simp [newS], rfl, rfl, rfl, rfl, fun q l hl => ?_, fun _ => rfl, fun j _ x => rfl, fun q => .inr rfl, fun q l _ hm => by cases hm⟩
  simp only [newS, List.getElem?_replicate] at hl
  split at hl
  · injection hl with hl; subst hl; rfl
  · cases hl
theorem new_fitS (n : Nat) : FitS (newS (List.replicate (8 * n) 0) n) := by
  refine ⟨fun x hx => by rw [(List.mem_replicate.1 hx).2]; omega, fun q l hl => ?_⟩
  simp only [newS, List.getElem?_replicate] at hl
  split at hl
  · injection hl with hl; subst hl; intro p hp; cases hp
  · cases hl
/-- What lay leaves. -/
def LayMPost (w : World) (ws : List Int) (M : Nat) (e : Ending) (w' : World) : Prop :=
  ∃ d t S, e = .returned (.tuple #[.pointer (some ⟨d, 0, none⟩), .pointer (some ⟨t 0, 0, none⟩)]) ∧ DV (fun b => w.heap.size < b) d t w' S ∧ Mid S 0 12 (List.replicate (8 * 12) 0) (layM ws M) [] M ∧ FitS S ∧ Below w.heap.size w w'
set_option maxRecDepth 100000 in
set_option maxHeartbeats 4000000 in
theorem lay20M (w : World) (A : Option Addr) (n c : Nat) (ws : List Int) (hw : ws.length = n) (hws : FitsB ws) (hnc : n ≤ 9223372036854775807) (hR : Rd .u64 w A ws) :
    Calls Tryd.prog 11 #[inv20 60 8 A n c] w (LayMPost w ws (min n 9)) := by
  have HWS := Lib.hid hws
  obtain ⟨M, hM⟩ : ∃ M, min n 9 = M := ⟨_, rfl⟩
  have hM1 : M ≤ n := by omega
  have hM2 : M ≤ 9 := by omega
  have hM3 : M = n ∨ M = 9 := by omega
  rw [hM]
  clear hM
  have HW := Lib.hid hw
  have HR := Lib.hid hR
  clear hw hR hws
  unfold inv20
  go_enter Tryd.func11, Tryd.ntmps11
  go_wp2_with (first
    | (go_at_call 37; refine (devNew _ 12 (by omega) (by omega)).mono ?_; rintro e w1 ⟨d, L, rfl, hD, hb, hF⟩; have HB := Lib.hid hb; have HV : Hid (DV (fun b => w.heap.size < b) d L.t w1 (newS (List.replicate (8 * 12) 0) 12)) := ⟨(fun b hb' => by have := hb.size; simp at this; omega), L, rfl, hD, (fun b hb' => by have := hF b hb'; simp at this; omega)⟩; clear hb hD hF)
    | (go_at_call 35; refine (vThread HV.out 0 (by omega)).mono ?_; rintro e w' ⟨rfl, rfl⟩))
  have hc1 : CB w1 w.heap.size 24 #[.int .i64 60, .int .i64 8, .slice A n c] := (CB.new w 24 #[.int .i64 60, .int .i64 8, .slice A n c]).below HB.out
  have hb1 : Below w.heap.size w w1 := (show Below w.heap.size w (w.alloc (.cells #[.int .i64 60, .int .i64 8, .slice A n c] 24)) by (repeat (first | with_reducible exact Below.refl _ _ | with_reducible refine bl_alloc ?_ _ | with_reducible refine bl_drew ?_ | with_reducible refine bl_drewN ?_ _ | with_reducible refine bl_bx ?_ _ | with_reducible exact BX.below _ | with_reducible refine bl_set ?_ (by first | (exact Nat.le_refl _) | (simp; done) | (simp; omega)) _ | assumption))).trans (HB.out.mono (by simp))
  have HI0 : Hid (∃ S, DV (fun b => w.heap.size < b) d L.t w1 S ∧ (Mid S 0 12 (List.replicate (8 * 12) 0) (layM ws 0) [] 0 ∧ FitS S) ∧ CB w1 w.heap.size 24 #[.int .i64 60, .int .i64 8, .slice A n c] ∧ Below w.heap.size w w1) := ⟨_, HV.out, ⟨new_mid 12, new_fitS 12⟩, hc1, hb1⟩
  obtain ⟨g, hg⟩ : ∃ g, w.heap.size = g := ⟨_, rfl⟩
  obtain ⟨T, hT⟩ : ∃ T, L.t 0 = T := ⟨_, rfl⟩
  have HG := Lib.hid hg
  rw [hg] at HI0
  rw [hg, hT]
  clear hc1 hb1 HV HB hg
  go_loopw [7, 25, 26, 27, 28, 29, 30, 31, 32, 33, 34, 35, 36, 37, 38, 39, 40, 41, 42, 43, 44, 45, 46, 47, 48, 49, 50, 51, 52, 53, 54, 55, 56, 57, 58, 59, 60, 61, 62, 63] (fun i _ _ _ _ _ _ _ _ _ _ _ _ _ _ _ _ _ _ _ _ _ _ _ _ _ _ _ _ _ _ _ _ _ _ _ _ _ _ _ wr => ∃ k : Nat, k ≤ M ∧ i = .int .i64 k ∧ ∃ S, DV (fun b => g < b) d L.t wr S ∧ (Mid S 0 12 (List.replicate (8 * 12) 0) (layM ws k) [] k ∧ FitS S) ∧ CB wr g 24 #[.int .i64 60, .int .i64 8, .slice A n c] ∧ Below g w wr) (fun i _ _ _ _ _ _ _ _ _ _ _ _ _ _ _ _ _ _ _ _ _ _ _ _ _ _ _ _ _ _ _ _ _ _ _ _ _ _ _ _ => 9 - (intOf i).toNat)
  case atStart => exact ⟨0, by omega, rfl, HI0.out⟩
  case round =>
    clear HI0
    obtain ⟨k, hk, rfl, S, hV, hO, hC, hB⟩ := hrel
    have b0 := hC.cell 0
    have b1 := hC.cell 1
    have b2 := hC.cell 2
    have bl := hC.lt
    have HV := Lib.hid hV
    have HO := Lib.hid hO
    have HC := Lib.hid hC
    have HB := Lib.hid hB
    clear hV hO hC hB
    by_cases hin : k < M
    · have hi1 : (k : Int) < (n : Int) := by omega
      have hi2 : (k : Int) < 9 := by omega
      have hkl : k < ws.length := by rw [HW.out]; omega
      obtain ⟨bb, o, hA, hbb, hc⟩ := HR.out.at_ hkl
      have hgw := HG.out
      have hc' : wr.cell? ⟨bb, o + k, none⟩ = some (.int .u64 ws[k]) := (HB.out.cell (p := ⟨bb, o + k, none⟩) (by show bb < g; omega)).trans hc
      have hbl : bb < wr.heap.size := by omega
      have hvb := HWS.out _ (List.getElem_mem hkl)
      have hst := layM_step ws k
      rw [List.getElem?_eq_getElem hkl, Option.getD_some] at hst
      have HST := Lib.hid hst
      obtain ⟨v, hv⟩ : ∃ v, ws[k] = v := ⟨_, rfl⟩
      rw [hv] at hc' HST hvb
      have e1 : IntKind.u64.wrap (8 + (k : Int)) = 8 + (k : Int) := IntWalk.u64_in _ (by omega)
      have e2 : IntKind.u64.wrap (8 * (8 + (k : Int))) = 8 * (8 + (k : Int)) := IntWalk.u64_in _ (by omega)
      have hon := HO.out.1.store (k := 8 + k) (by omega) v
      have hfs : FitS (S.store 0 (8 * ((8 + k : Nat) : Int)) v) := HO.out.2.exec1 0 (1, 8 * ((8 + k : Nat) : Int), v) hvb
      rw [show ((8 + k : Nat) : Int) = 8 + (k : Int) by omega] at hon HST hfs
      have HON := Lib.hid hon
      have HFS := Lib.hid hfs
      have hkn : k < n := by omega
      have a3 : 8 + (k : Int) < 96 := by omega
      subst hA
      clear hv hc hon hfs hst hvb
      go_upto_region 9 with (fail)
      refine wp_region_still_n 12 (by kernel_rfl) (by kernel_rfl) ?_
      simp only [List.take_succ_cons, List.take_zero, List.drop_succ_cons, List.drop_zero]
      repeat (go_big_quiet_step (fail))
      refine wpQuiet_nil ?_
      rintro _ ⟨nq, rfl⟩
      have HSTO : Hid (Calls Tryd.prog 25 #[.pointer (some ⟨T, 0, none⟩), .int .u64 (8 * (8 + (k : Int))), .int .u64 v] (wr.drewN nq) fun e w' => e = .returned (.tuple #[]) ∧ DV (fun b => g < b) d L.t w' (S.store 0 (8 * (8 + (k : Int))) v) ∧ Ch (fun b => g < b) (wr.drewN nq) w') := by
        have := storeV (HV.out.drewN nq) 0 (by omega) HO.out.1.good (by omega) (8 * (8 + (k : Int))) v (by omega)
        rwa [hT] at this
      go_wp2_with (go_at_call 25; refine HSTO.out.mono ?_; rintro e w2 ⟨rfl, hV2, hC2⟩; have HV2 := Lib.hid hV2; have HC2 := Lib.hid hC2; clear hV2 hC2)
      refine ⟨⟨k + 1, by omega, by go_num, _, HV2.out, ?_, (HC.out.drewN nq).ch HC2.out (Nat.lt_irrefl g), ?_⟩, by simp [intOf]; omega⟩
      · rw [HST.out]; exact ⟨HON.out, HFS.out⟩
      · exact (below_drewN HB.out nq).trans (HC2.out.to_below (Nat.le_of_lt bl) (fun b hb => Nat.le_of_lt hb))
    · obtain rfl : k = M := by omega
      have HEND : Hid (LayMPost w ws k (.returned (.tuple #[.pointer (some ⟨d, 0, none⟩), .pointer (some ⟨L.t 0, 0, none⟩)])) wr) := ⟨d, L.t, S, rfl, by rw [HG.out]; exact HV.out, HO.out.1, HO.out.2, by rw [HG.out]; exact HB.out⟩
      rw [hT] at HEND
      by_cases hi1 : (k : Int) < (n : Int)
      · have hi2 : ¬ (k : Int) < 9 := by omega
        go_wp2
        go_ret2
        exact HEND.out
      · go_wp2
        go_ret2
        exact HEND.out
end Go.Proofs.YtbhkdngbgokilaaDoor

namespace Go.Proofs.YtbhkdngbgokilaaDoor
open Go.RowKit
set_option linter.unusedVariables false

theorem or_flip {x : Int} (hx : 0 ≤ x ∧ x < 18446744073709551616) {b : Nat} (hb : b < 64) (h0 : x.toNat.testBit b = false) : bits .or .u64 x ((2 ^ b : Nat) : Int) = flipV x b := by
  have h1 : 2 ^ b < 2 ^ 64 := Nat.pow_lt_pow_right (by omega) hb
  obtain ⟨v, rfl⟩ := Int.eq_ofNat_of_zero_le hx.1
  rw [bits_or_u64_nat _ _ (by omega) (by omega)]
  unfold flipV
  rw [Int.toNat_natCast] at h0 ⊢
  congr 1
  apply Nat.eq_of_testBit_eq
  intro i
  rw [Nat.testBit_or, Nat.testBit_xor, Nat.testBit_two_pow]
  by_cases hi : b = i
  · subst hi; simp [h0]
  · simp [hi]
theorem one_word (V : List Int) (h : V.length = 1) : V = [V[0]?.getD 0] := by
  match V, h with
  | [x], _ => rfl
/-- The word in the images of a cut program. -/
theorem cut_image {S : DevS} {a v want : Int} {h : List (Int × Int)} (hC : CS S a h) (hd : (a = v ∧ h = []) ∨ (a = v ∧ h = [(64, want)]) ∨ (a = want ∧ h = [])) (K : Nat → Nat) (hoff : S.off = false → a = want ∧ h = []) :
    ∃ z, (S.upto K).pers[8]? = some z ∧ (z = v ∨ z = want) ∧ (S.off = false → z = want) := by
  have hi := hC.image K
  have h0 : h = [] → (S.upto K).pers[8]? = some a := fun e => by rw [hi, e, List.take_nil]; exact hC.p8
  rcases hd with ⟨rfl, rfl⟩ | ⟨rfl, rfl⟩ | ⟨rfl, rfl⟩
  · exact ⟨a, h0 rfl, .inl rfl, fun e => (hoff e).1⟩
  · have hn : S.off = true := by
      cases ho : S.off with
      | false => exact absurd (hoff ho).2 (by simp)
      | true => rfl
    by_cases hk : K 1 = 0
    · refine ⟨a, ?_, .inl rfl, fun e => by rw [hn] at e; cases e⟩
      rw [hi, hk, List.take_zero]; exact hC.p8
    · refine ⟨want, ?_, .inr rfl, fun _ => rfl⟩
      rw [hi, List.take_of_length_le (show 1 ≤ K 1 by omega)]
      simp only [applyW, List.foldl_cons, List.foldl_nil]
      rw [List.getElem?_set, if_pos (by decide), if_pos (by have := hC.np; omega)]
  · exact ⟨a, h0 rfl, .inr rfl, fun _ => rfl⟩
theorem off20 {F : Nat → Prop} {d : Nat} {t : Nat → Nat} {w : World} {S : DevS} (h : DV F d t w S) : Calls Tryd.prog 36 #[.pointer (some ⟨d, 0, none⟩)] w fun e w' => e = .returned (.bool S.off) ∧ w = w' := by
  obtain ⟨_, L, rfl, h3, _⟩ := h
  have ho := h3.ocell
  have hl := h3.lt
  clear h3
  go_enter Tryd.func36, Tryd.ntmps36
  go_wp2
  go_ret
  exact ⟨rfl, rfl⟩
theorem storesP64 (want : Int) : storesP [((64 : Int), want)] = [(1, 64, want), (2, 64, 0), (3, 0, 0)] := by
  have : startOf 64 = 64 := by decide
  simp [storesP, insSt, insFl, starts, cpt, this]
theorem armV7 {F : Nat → Prop} {d : Nat} {t : Nat → Nat} {w : World} {S : DevS} (h : DV F d t w S) (n : Int) (hn : -9223372036854775808 ≤ n ∧ n < 9223372036854775808) :
    Calls Tryd.prog 28 #[.pointer (some ⟨d, 0, none⟩), .int .i64 n] w fun e w' => e = .returned (.tuple #[]) ∧ DV F d t w' (S.arm n) ∧ Ch F w w' := by
  obtain ⟨h1, L, rfl, h3, h4⟩ := h
  refine (devArm w d L S h3 n hn).mono ?_
  rintro e w' ⟨rfl, hD2, hC2⟩
  exact ⟨rfl, ⟨fun b hb => h1 b (Nat.le_trans hC2.size hb), L, rfl, hD2, h4⟩, hC2.mono (fun b hb _ => h4 b hb)⟩
/-- The device after the cut program. -/
def CutsRel (w : World) (d : Nat) (t : Nat → Nat) (v wv : Int) (wx : World) : Prop :=
  ∃ (F3 : Nat → Prop) (S3 : DevS) (N3 : Nat), DV F3 d t wx S3 ∧ (∃ a h, CS S3 a h ∧ ((a = v ∧ h = []) ∨ (a = v ∧ h = [(64, wv)]) ∨ (a = wv ∧ h = [])) ∧ (S3.off = false → a = wv ∧ h = [])) ∧ Good S3 N3 ∧ N3 < 1000000 ∧ S3.lns.length = 12 ∧ FitS S3 ∧ Below w.heap.size w wx
theorem nl_runP (i : Nat) : ∀ (ps : List Ins) (S : DevS), (S.runP i ps).lns.length = S.lns.length := by
  intro ps
  induction ps with
  | nil => intro S; rfl
  | cons p ps ih =>
    intro S
    show ((S.exec1 i p).runP i ps).lns.length = _
    rw [ih]
    have hc : ∀ b, (S.cnt i b).lns = S.lns := fun b => (cnt_lns S i b).1
    unfold DevS.exec1 DevS.store DevS.flush DevS.fence
    split
    · split
      · simp [DevS.write, hc]
      · rw [hc]
    · split
      · split
        · show (S.cnt i _).lns.length = _; rw [hc]
        · rw [hc]
      · split
        · show ((S.cnt i true).upto _).lns.length = _
          rw [(length_upto _).2, hc]
        · rw [hc]
set_option maxRecDepth 100000 in
set_option maxHeartbeats 4000000 in
theorem law_BitmapCuts (w : World) (hT : Tab w) (B At : Int) (A : Option Addr) (n0 c : Nat) (ws : List Int) (hw : ws.length = n0) (hws : FitsB ws) (hnc : n0 ≤ 9223372036854775807) (hR : Rd .u64 w A ws)
    (P1 : Option Addr) (k1 d1 : Nat) (l1 : List Int) (hl1 : l1.length = k1) (hk1 : k1 ≤ 9223372036854775807) (hR1 : Rd .i64 w P1 l1) (nn : Int) (hnn : 0 ≤ nn ∧ nn ≤ 255) :
    Calls Tryd.prog 9 #[inv20 B At A n0 c, .slice P1 k1 d1, .int .u8 nn] w fun e w' => e = .returned (.bool true) ∧ Below w.heap.size w w' := by
  have HT := Lib.hid hT
  have HR := Lib.hid hR
  have HW := Lib.hid hw
  have HWS := Lib.hid hws
  have HL1 := Lib.hid hl1
  have HR1 := Lib.hid hR1
  clear hT hR hw hws hl1 hR1
  have HLY := Lib.hid (fun (W : World) (hW : Below w.heap.size w W) => lay20M W A n0 c ws HW.out HWS.out hnc (HR.out.below hW))
  unfold inv20 at HLY ⊢
  by_cases hbig : (k1 : Int) > 60
  · clear HLY
    go_enter Tryd.func9, Tryd.ntmps9
    go_wp2_with (go_at_call 10; refine (awake20 _ (HT.out.below (by (repeat (first | with_reducible exact Below.refl _ _ | with_reducible refine bl_alloc ?_ _ | with_reducible refine bl_drew ?_ | with_reducible refine bl_drewN ?_ _ | with_reducible refine bl_bx ?_ _ | with_reducible exact BX.below _ | with_reducible refine bl_set ?_ (by first | (exact Nat.le_refl _) | (simp; done) | (simp; omega)) _ | assumption))))).mono ?_; rintro e w' ⟨rfl, hb⟩; obtain ⟨x, rfl⟩ := bx_of hb; clear hb)
    go_ret
    exact ⟨rfl, (by repeat (first | with_reducible exact Below.refl _ _ | with_reducible refine bl_alloc ?_ _ | with_reducible refine bl_drew ?_ | with_reducible refine bl_drewN ?_ _ | with_reducible refine bl_bx ?_ _ | with_reducible exact BX.below _ | with_reducible refine bl_set ?_ (by first | (exact Nat.le_refl _) | (simp; done) | (simp; omega)) _ | assumption))⟩
  go_enter Tryd.func9, Tryd.ntmps9
  go_upto_region 3 with (go_at_call 10; refine (awake20 _ (HT.out.below (by (repeat (first | with_reducible exact Below.refl _ _ | with_reducible refine bl_alloc ?_ _ | with_reducible refine bl_drew ?_ | with_reducible refine bl_drewN ?_ _ | with_reducible refine bl_bx ?_ _ | with_reducible exact BX.below _ | with_reducible refine bl_set ?_ (by first | (exact Nat.le_refl _) | (simp; done) | (simp; omega)) _ | assumption))))).mono ?_; rintro e w' ⟨rfl, hb⟩; obtain ⟨x, rfl⟩ := bx_of hb; clear hb)
  have hc0 : CB (w.alloc (.cells #[.int .i64 B, .int .i64 At, .slice A n0 c] 24)) w.heap.size 24 #[.int .i64 B, .int .i64 At, .slice A n0 c] := CB.new _ _ _
  have hc1 := hc0.bx x
  have hb1 : Below w.heap.size w x.w := by (repeat (first | with_reducible exact Below.refl _ _ | with_reducible refine bl_alloc ?_ _ | with_reducible refine bl_drew ?_ | with_reducible refine bl_drewN ?_ _ | with_reducible refine bl_bx ?_ _ | with_reducible exact BX.below _ | with_reducible refine bl_set ?_ (by first | (exact Nat.le_refl _) | (simp; done) | (simp; omega)) _ | assumption))
  obtain ⟨g, hg⟩ : ∃ g, w.heap.size = g := ⟨_, rfl⟩
  obtain ⟨W1, hW1⟩ : ∃ W1, x.w = W1 := ⟨_, rfl⟩
  rw [hg, hW1] at hc1
  rw [hW1] at hb1
  rw [hg, hW1]
  have HGW := Lib.hid hg
  have b0 := hc1.cell 0
  have b1 := hc1.cell 1
  have bl := hc1.lt
  have f0 := hc1.frozen 0
  have f1 := hc1.frozen 1
  have HC1 := Lib.hid hc1
  have HB1 := Lib.hid hb1
  clear hc0 hg hW1 hc1 hb1
  go_upto_region 4 with (fail)
  have hc2 : CB ((W1.setCell ⟨g, 0, none⟩ (.int .i64 60)).setCell ⟨g, 1, none⟩ (.int .i64 8)) g 24 #[.int .i64 60, .int .i64 8, .slice A n0 c] := (HC1.out.set 0 (.int .i64 60)).set 1 (.int .i64 8)
  have hb2 : Below w.heap.size w ((W1.setCell ⟨g, 0, none⟩ (.int .i64 60)).setCell ⟨g, 1, none⟩ (.int .i64 8)) := (HB1.out.setCell (p := ⟨g, 0, none⟩) (by rw [← HGW.out]; exact Nat.le_refl _) _).setCell (p := ⟨g, 1, none⟩) (by rw [← HGW.out]; exact Nat.le_refl _) _
  obtain ⟨W2, hW2⟩ : ∃ W2, (W1.setCell ⟨g, 0, none⟩ (.int .i64 60)).setCell ⟨g, 1, none⟩ (.int .i64 8) = W2 := ⟨_, rfl⟩
  rw [hW2] at hc2 hb2
  rw [hW2]
  clear hW2 b0 b1 bl f0 f1 HC1 HB1
  have b0 : W2.cell? ⟨g, 0, none⟩ = some (.int .i64 60) := hc2.cell 0
  have b1 : W2.cell? ⟨g, 1, none⟩ = some (.int .i64 8) := hc2.cell 1
  have b2 : W2.cell? ⟨g, 2, none⟩ = some (.slice A n0 c) := hc2.cell 2
  have bl := hc2.lt
  have HB2 := Lib.hid hb2
  have HLL := Lib.hid (HLY.out W2 hb2)
  obtain ⟨M, hM⟩ : ∃ M, min n0 9 = M := ⟨_, rfl⟩
  have hM9 : M ≤ 9 := by omega
  rw [hM] at HLL
  clear hM hb2 hc2 HLY
  go_upto_region 7 with (go_at_call 11; refine HLL.out.mono ?_; rintro e w3 ⟨d, t, S, rfl, hV, hMid, hFS, hB3⟩; have HV := Lib.hid hV; have HMD := Lib.hid hMid; have HFS := Lib.hid hFS; have HB3 := Lib.hid hB3; clear hV hMid hFS hB3)
  obtain ⟨T, hTT⟩ : ∃ T, t 0 = T := ⟨_, rfl⟩
  rw [hTT]
  have HTT := Lib.hid hTT
  clear hTT b0 b1 b2 bl HLL
  have HP1 := Lib.hid (memPersist1 w3)
  have hN3 : W2.heap.size ≤ w3.heap.size := HB3.out.size
  have HRN : Hid (∀ (w4 : World) (A4 : Option Addr) (c4 : Nat), Below w3.heap.size w3 w4 → Sl 100 3 w4 A4 2 c4 (pcells [(2, 64, 0), (3, 0, 0)]) → (∀ b, OwnB A4 b → w3.heap.size ≤ b) →
      Calls Tryd.prog 31 #[.slice A4 2 c4, .iface 28 (.pointer (some ⟨T, 0, none⟩))] w4 fun e w' => (∃ y, e = .returned (.int .i64 y)) ∧ DV (fun b => W2.heap.size < b ∧ ¬ (w3.heap.size ≤ b ∧ b < w4.heap.size)) d t w' (S.runP 0 [(2, 64, 0), (3, 0, 0)]) ∧ Ch (fun b => W2.heap.size < b) w4 w') := by
    intro w4 A4 c4 hb hS hO
    have hDV := HV.out.less hb (fun b => w3.heap.size ≤ b ∧ b < w4.heap.size) (fun b hb => hb)
    have := memRun w4 hDV 0 (by omega) HMD.out.good A4 2 c4 [(2, 64, 0), (3, 0, 0)] rfl hS (fun b hb hf => hf.2 ⟨hO b hb, hS.lt hb⟩) (by omega) (by decide)
    rw [HTT.out] at this
    refine this.mono ?_
    rintro e w' ⟨he, h1, h2⟩
    exact ⟨⟨_, he⟩, h1, h2.mono (fun b h _ => h.1)⟩
  go_upto_region 8 with (first
    | (go_at_call 30; refine HP1.out.mono ?_; rintro e w4 ⟨A4, c4, rfl, hS4, hB4, hO4⟩; have HR4 := Lib.hid (HRN.out w4 A4 c4 hB4 hS4 hO4); have HB4 := Lib.hid hB4; clear hS4 hB4 hO4)
    | (go_at_call 31; refine HR4.out.mono ?_; rintro e w5 ⟨⟨y5, rfl⟩, hV5, hC5⟩; have HV5 := Lib.hid hV5; have HC5 := Lib.hid hC5; clear hV5 hC5))
  obtain ⟨hon, hcs, hno⟩ := persist_word HMD.out (by omega) (layM_pos ws M) (by simp)
  have hfs1 : FitS (S.runP 0 [(2, 64, 0), (3, 0, 0)]) := HFS.out.runP 0 _ (by decide)
  obtain ⟨S1, hS1⟩ : ∃ S1, S.runP 0 [(2, 64, 0), (3, 0, 0)] = S1 := ⟨_, rfl⟩
  rw [hS1] at hon hcs hno hfs1 HV5
  obtain ⟨xs, hxs⟩ : ∃ xs, applyW (List.replicate (8 * 12) 0) (layM ws M) = xs := ⟨_, rfl⟩
  have hfx : FitsB xs := by
    rw [← hxs]
    refine applyW_fitsB _ (fun p hp => ?_) _ (fun x hx => by rw [(List.mem_replicate.1 hx).2]; omega)
    obtain ⟨j, _, rfl⟩ := List.mem_map.1 hp
    exact HWS.out.getD j
  have hxl : xs.length = 96 := by rw [← hxs, length_applyW]; simp
  rw [hxs] at hon hcs
  obtain ⟨v, hv⟩ : ∃ v, xs[8]? = some v := ⟨_, List.getElem?_eq_getElem (by omega)⟩
  have hvf : 0 ≤ v ∧ v < 18446744073709551616 := hfx v (List.mem_of_getElem? hv)
  have hV : (xs.drop 8).take 1 = [v] := by
    apply List.ext_getElem?
    intro i
    rw [List.getElem?_take]
    by_cases hi : i < 1
    · obtain rfl : i = 0 := by omega
      rw [if_pos hi, List.getElem?_drop]
      simpa using hv
    · rw [if_neg hi, List.getElem?_eq_none (by simp; omega)]
  have HCS := Lib.hid (hcs v hv)
  have HON := Lib.hid hon
  have HNO := Lib.hid hno
  have HF1 := Lib.hid hfs1
  have HSZ := Lib.hid (onSize HV5.out hon)
  have HER := Lib.hid (onErr HV5.out hon)
  have hld := ldV HV5.out hon 0 (by omega)
  rw [HTT.out] at HSZ HER hld
  have HLD := Lib.hid hld
  have hb45 : Below W2.heap.size w4 w5 := HC5.out.to_below (by have := HB4.out.size; omega) (fun b hb => Nat.le_of_lt hb)
  have HBW5 : Hid (Below w.heap.size w w5) := ((HB2.out.trans (HB3.out.mono HB2.out.size)).trans (HB4.out.mono (by have := HB2.out.size; omega))).trans (hb45.mono HB2.out.size)
  have hw35 : w3.heap.size ≤ w5.heap.size := by have h1 := HB4.out.size; have h2 := HC5.out.size; omega
  have hw45 : w4.heap.size ≤ w5.heap.size := HC5.out.size
  clear hS1 hxs hcs hon hno hfs1 hld hb45 HMD HFS HRN HR4 HP1 HV hv
  have HOPN : Hid (∀ W, Below w5.heap.size w5 W → Calls Tryd.prog 13 #[.iface 28 (.pointer (some ⟨T, 0, none⟩)), .int .u64 64, .int .i64 60] W fun e w' => e = .returned (.tuple #[.agg #[.iface 28 (.pointer (some ⟨T, 0, none⟩)), .int .u64 64, .int .i64 60], .int .i64 0]) ∧ Below W.heap.size W w') := by
    intro W hW
    have := bmOpen_ok W T 64 60 0 (by omega) (fun W' hW' => HSZ.out W' (hW.trans (hW'.mono hW.size))) (fun W' hW' => HER.out W' (hW.trans (hW'.mono hW.size))) (by decide)
    rwa [if_pos rfl] at this
  go_upto_region 11 with (go_at_call 13; refine (HOPN.out _ (Below.refl _ _)).mono ?_; rintro e w' ⟨rfl, hb⟩; obtain ⟨y, rfl⟩ := bx_of hb; clear hb)
  have hbm : CB (y.w.alloc (.cells #[.iface 28 (.pointer (some ⟨T, 0, none⟩)), .int .u64 64, .int .i64 60] 36)) y.w.heap.size 36 #[.iface 28 (.pointer (some ⟨T, 0, none⟩)), .int .u64 64, .int .i64 60] := CB.new _ _ _
  have hb56 : Below w5.heap.size w5 (y.w.alloc (.cells #[.iface 28 (.pointer (some ⟨T, 0, none⟩)), .int .u64 64, .int .i64 60] 36)) := by (repeat (first | with_reducible exact Below.refl _ _ | with_reducible refine bl_alloc ?_ _ | with_reducible refine bl_drew ?_ | with_reducible refine bl_drewN ?_ _ | with_reducible refine bl_bx ?_ _ | with_reducible exact BX.below _ | with_reducible refine bl_set ?_ (by first | (exact Nat.le_refl _) | (simp; done) | (simp; omega)) _ | assumption))
  obtain ⟨gb, hgb⟩ : ∃ gb, y.w.heap.size = gb := ⟨_, rfl⟩
  obtain ⟨w6, hw6⟩ : ∃ w6, y.w.alloc (.cells #[.iface 28 (.pointer (some ⟨T, 0, none⟩)), .int .u64 64, .int .i64 60] 36) = w6 := ⟨_, rfl⟩
  rw [hgb, hw6] at hbm
  rw [hw6] at hb56
  rw [hgb, hw6]
  have k0 := hbm.cell 0
  have k1' := hbm.cell 1
  have k2 := hbm.cell 2
  have kl := hbm.lt
  have HB56 := Lib.hid hb56
  have HL64 : Hid (Calls Tryd.prog 32 #[.pointer (some ⟨T, 0, none⟩), .int .u64 64] w6 fun e w' => e = .returned (.int .u64 v) ∧ w6 = w') := HLD.out w6 hb56 8 v (by have := congrArg (·[0]?) hV; simpa [List.getElem?_take, List.getElem?_drop] using this)
  obtain ⟨out, hout⟩ : ∃ out, flips [v] ((l1 ++ []).map Int.toNat) = out := ⟨_, rfl⟩
  have hbw6 : Below w.heap.size w w6 := HBW5.out.trans (hb56.mono HBW5.out.size)
  have hcb := change_both w6 T xs 8 60 1 (HLD.out.below hb56) (fun W hW => HER.out W (hb56.trans (hW.mono hb56.size))) hfx hxl rfl (by omega) (by omega) (by omega) P1 k1 d1 l1 HL1.out (by omega) (HR1.out.below hbw6) none 0 0 [] rfl (by omega) Rd.nil [v] hV out hout
  have HBW6 := Lib.hid hbw6
  clear hgb hw6 hbm hb56 hbw6 HOPN HSZ HER
  rcases hcb with ⟨fc, hfc, _, hc1, _⟩ | ⟨hok, hfit, hc1, _⟩
  · have HC1 : Hid (Calls Tryd.prog 15 #[.agg #[.iface 28 (.pointer (some ⟨T, 0, none⟩)), .int .u64 64, .int .i64 60], .slice P1 k1 d1, .slice none 0 0] w6 (ChBad w6 fc)) := hc1 w6 (Below.refl _ _)
    have hfc' : (fc != 0) = true := by simpa using hfc
    clear hc1
    go_wp2_with (first
      | (go_at_call 32; refine HL64.out.mono ?_; rintro e w' ⟨rfl, rfl⟩)
      | (go_at_call 15; refine HC1.out.mono ?_; rintro e w' ⟨rfl, hb⟩; obtain ⟨q, rfl⟩ := bx_of hb; clear hb))
    go_ret
    exact ⟨rfl, HBW6.out.trans (q.below.mono HBW6.out.size)⟩
  · have HC1 : Hid (Calls Tryd.prog 15 #[.agg #[.iface 28 (.pointer (some ⟨T, 0, none⟩)), .int .u64 64, .int .i64 60], .slice P1 k1 d1, .slice none 0 0] w6 (ChGood w6 (difL [v] out 8 1))) := hc1 w6 (Below.refl _ _)
    clear hc1
    go_upto_region 16 with (first
      | (go_at_call 32; refine HL64.out.mono ?_; rintro e w' ⟨rfl, rfl⟩)
      | (go_at_call 15; refine HC1.out.mono ?_; rintro e w7 ⟨A7, c7, rfl, hS7, hO7, hB7⟩; have HS7 := Lib.hid hS7; have HO7 := Lib.hid hO7; have HB7 := Lib.hid hB7; clear hS7 hO7 hB7))
    obtain ⟨hin, hnd⟩ := okL_spec hok
    rw [List.append_nil] at hin hnd hout hok hfit
    have hbl0 : ∀ j ∈ l1.map Int.toNat, j / 64 < [v].length := by
      intro j hj
      obtain ⟨x, hx, rfl⟩ := List.mem_map.1 hj
      have := hin x hx
      simp
      omega
    have hft : ∀ j ∈ l1.map Int.toNat, bitW [v] j = false := by
      have := (fitAll_iff [v] l1 []).1 (by rw [List.append_nil, HL1.out]; exact hfit)
      exact this.1
    have hfv : FitsB [v] := fun x hx => by
      have : x = v := by simpa using hx
      rw [this]; exact hvf
    have hol : out.length = 1 := by rw [← hout, flips_length]; rfl
    have HSTEP : Hid (∀ k j : Nat, (hk : k < l1.length) → l1[k] = (j : Int) → j < 60 ∧ bits .or .u64 ((flips [v] ((l1.take k).map Int.toNat))[0]?.getD 0) ((2 : Int) ^ j) = (flips [v] ((l1.take (k + 1)).map Int.toNat))[0]?.getD 0) := by
      intro k j hk hj
      have hj60 : j < 60 := by have := hin _ (List.getElem_mem hk); omega
      refine ⟨hj60, ?_⟩
      have hmem : j ∈ l1.map Int.toNat := List.mem_map.2 ⟨l1[k], List.getElem_mem hk, by rw [hj]; rfl⟩
      have hsub : (l1.take k).map Int.toNat = (l1.map Int.toNat).take k := by rw [List.map_take]
      have hnot : ¬ j ∈ (l1.map Int.toNat).take k := by
        intro hm
        rw [List.mem_take_iff_getElem] at hm
        obtain ⟨q, hq, he⟩ := hm
        rw [List.nodup_iff_pairwise_ne, List.pairwise_iff_getElem] at hnd
        have hqk : q < k := by omega
        refine hnd q k (by omega) (by rw [List.length_map]; exact hk) hqk ?_
        rw [he, List.getElem_map, hj]; rfl
      have hbit : bitW (flips [v] ((l1.take k).map Int.toNat)) j = false := by
        rw [hsub, flips_bit _ _ (fun q hq => hbl0 q (List.mem_of_mem_take hq)) (hnd.sublist (List.take_sublist _ _)), hft j hmem, decide_eq_false hnot]; rfl
      have hfl := (flips_fits ((l1.take k).map Int.toNat) [v] hfv).getD 0
      have h0 : ((flips [v] ((l1.take k).map Int.toNat))[0]?.getD 0).toNat.testBit j = false := by
        rw [word_bit _ 0 j (by omega)]; simpa using hbit
      have := or_flip hfl (b := j) (by omega) h0
      rw [show ((2 ^ j : Nat) : Int) = (2 : Int) ^ j from Int.natCast_pow 2 _] at this
      rw [this, flipsT_step [v] l1 k hk, hj, Int.toNat_natCast, flipW_get _ _ _ (by rw [flips_length]; simp), if_pos (by omega), show j % 64 = j by omega]
    obtain ⟨wv, hwv⟩ : ∃ wv, out[0]?.getD 0 = wv := ⟨_, rfl⟩
    have HEND : Hid ((flips [v] ((l1.take k1).map Int.toNat))[0]?.getD 0 = wv) := by
      show _ = _
      rw [List.take_of_length_le (by rw [HL1.out]; omega), hout, hwv]
    have hwf : 0 ≤ wv ∧ wv < 18446744073709551616 := by rw [← hwv, ← hout]; exact (flips_fits _ _ hfv).getD 0
    have hlst : difL [v] out 8 1 = [] ∧ wv = v ∨ difL [v] out 8 1 = [(64, wv)] := by
      have e : difL [v] out 8 1 = difOne [v] out 8 0 := by simp [difL, List.range_succ]
      rw [e]
      unfold difOne
      rw [hwv]
      by_cases h : wv = v
      · left; rw [if_pos (by simpa using h)]; exact ⟨rfl, h⟩
      · right; rw [if_neg (by simpa using h)]; rfl
    have HWF := Lib.hid hwf
    have HPOS : Hid (∀ x ∈ l1, 0 ≤ x) := fun x hx => (hin x hx).1
    have HLST := Lib.hid hlst
    have HRW7 := Lib.hid (HR1.out.below (HBW6.out.trans (HB7.out.mono HBW6.out.size)))
    clear hin hnd hout hok hfit hbl0 hft hfv hol hwv hwf hlst HC1 HL64
    have hk60 : k1 ≤ 60 := by omega
    go_wp2
    go_loopw [66, 14, 16, 67, 68, 69, 70, 71, 72, 73, 74, 75, 76, 77, 78, 79, 80] (fun i s _ _ _ _ _ _ _ _ _ _ _ _ _ _ _ wr => ∃ k : Nat, k ≤ k1 ∧ i = .int .i64 k ∧ s = .int .u64 ((flips [v] ((l1.take k).map Int.toNat))[0]?.getD 0) ∧ wr = w7) (fun i _ _ _ _ _ _ _ _ _ _ _ _ _ _ _ _ _ => k1 - (intOf i).toNat)
    case atStart => exact ⟨0, by omega, rfl, rfl, rfl⟩
    case round =>
      obtain ⟨k, hk, rfl, rfl, rfl⟩ := hrel
      by_cases hlt : k < k1
      · have hkl : k < l1.length := by rw [HL1.out]; exact hlt
        have hlt' : (k : Int) < (k1 : Int) := by omega
        obtain ⟨b, o, hA, hb, hc⟩ := HRW7.out.at_ hkl
        subst hA
        obtain ⟨j, hj⟩ : ∃ j : Nat, l1[k] = (j : Int) := ⟨(l1[k]).toNat, by have := HPOS.out _ (List.getElem_mem hkl); omega⟩
        obtain ⟨hj60, hst⟩ := HSTEP.out k j hkl hj
        rw [hj] at hc
        have HST := Lib.hid hst
        obtain ⟨u0, hu0⟩ : ∃ u0, (flips [v] ((l1.take k).map Int.toNat))[0]?.getD 0 = u0 := ⟨_, rfl⟩
        rw [hu0] at HST ⊢
        have hj0 : (j : Int) ≥ 0 := by omega
        have hj1 : (j : Int) < 60 := by omega
        have hw3 : IntKind.u64.wrap (2 ^ j) = 2 ^ j := by
          have h64 : 2 ^ j < 2 ^ 64 := Nat.pow_lt_pow_right (by omega) (by omega)
          rw [← show ((2 ^ j : Nat) : Int) = (2 : Int) ^ j from Int.natCast_pow 2 _]
          generalize 2 ^ j = p at *
          exact IntWalk.u64_in _ (by omega)
        clear hst hu0 hj
        go_wp2
        exact ⟨⟨k + 1, by omega, by go_num, by rw [← HST.out], by first | rfl | trivial⟩, by simp [intOf]; omega⟩
      · obtain rfl : k1 = k := by omega
        have hlt' : ¬ (k1 : Int) < (k1 : Int) := by omega
        rw [HEND.out]
        go_upto_region 22 with (fail)
        obtain ⟨w7, rfl⟩ : ∃ w7, w7 = wr := ⟨_, rfl⟩
        have hb57 : Below w5.heap.size w5 w7 := HB56.out.trans (HB7.out.mono HB56.out.size)
        have hDV7 := HV5.out.less hb57 (fun b => w5.heap.size ≤ b ∧ b < w7.heap.size) (fun b hb => hb)
        obtain ⟨F7, hF7⟩ : ∃ F7 : Nat → Prop, (fun b => (W2.heap.size < b ∧ ¬ (w3.heap.size ≤ b ∧ b < w4.heap.size)) ∧ ¬ (w5.heap.size ≤ b ∧ b < w7.heap.size)) = F7 := ⟨_, rfl⟩
        have HF7 : Hid (∀ b, F7 b → W2.heap.size < b ∧ (b < w5.heap.size ∨ w7.heap.size ≤ b)) := by
          rw [← hF7]
          exact fun b hb => ⟨hb.1.1, by omega⟩
        rw [hF7] at hDV7
        have HBW7 := Lib.hid (HBW5.out.trans (hb57.mono HBW5.out.size))
        have hw2 := HB2.out.size
        have h56 := HB56.out.size
        have HAR : Hid (∀ z : Int, 0 ≤ z ∧ z < 5 → Calls Tryd.prog 28 #[.pointer (some ⟨d, 0, none⟩), .int .i64 z] w7 fun e w' => e = .returned (.tuple #[]) ∧ (∃ kk : Nat, DV F7 d t w' (S1.arm (kk : Int))) ∧ Ch F7 w7 w') := by
          intro z hz
          obtain ⟨kk, rfl⟩ := Int.eq_ofNat_of_zero_le hz.1
          refine (armV7 hDV7 (kk : Int) (by omega)).mono ?_
          rintro e w' ⟨h1, h2, h3⟩
          exact ⟨h1, ⟨kk, h2⟩, h3⟩
        clear hF7 hDV7 hb57
        go_upto_region 23 with (go_at_call 28; refine (HAR.out _ (by first | omega | (have := Int.tmod_eq_emod_of_nonneg (b := 5) hnn.1; omega))).mono ?_; rintro e w8 ⟨rfl, ⟨kk, hV8⟩, hC8⟩; have HV8 := Lib.hid hV8; have HC8 := Lib.hid hC8; clear hV8 hC8)
        have hGA : Good (S1.arm (kk : Int)) (M + 2) := by
          unfold DevS.arm
          split
          · exact HON.out.good
          · exact HON.out.good.ctr _ _ _ _
        have hnA : (S1.arm (kk : Int)).lns.length = 12 := by unfold DevS.arm; split <;> exact HON.out.nl
        have hFA : FitS (S1.arm (kk : Int)) := by unfold DevS.arm; split <;> exact HF1.out.same rfl rfl
        have hSA : S1.arm (kk : Int) = { S1 with armed := true, left := (kk : Int) } := by
          unfold DevS.arm
          rw [HON.out.off]
          have h1 : imax (kk : Int) 0 = (kk : Int) := by unfold imax; rw [if_neg (by omega)]
          simp [h1]
        have HGA := Lib.hid hGA
        have HNA := Lib.hid hnA
        have HFA := Lib.hid hFA
        have HCU := Lib.hid (cut_run S1 (M + 2) HON.out.good (by omega) HON.out.nl HON.out.off v wv HCS.out HNO.out kk)
        have HC0 : Hid (CS (S1.arm (kk : Int)) v []) := by rw [hSA]; exact HCS.out.same rfl rfl
        have HBW8 : Hid (Below w.heap.size w w8) := bl_ch HBW7.out HC8.out (fun b hb => by have := (HF7.out b hb).1; omega)
        have h78 := HC8.out.size
        have h67 := HB7.out.size
        clear hGA hnA hFA hSA HAR
        obtain ⟨nl, hnl⟩ : ∃ nl, (difL [v] out 8 1).length = nl := ⟨_, rfl⟩
        rw [hnl]
        go_cut [] from 86 (fun wx => CutsRel w d t v wv wx)
        case first =>
          rcases HLST.out with ⟨hl, hwv⟩ | hl
          · have HWV := Lib.hid hwv
            have hn0 : nl = 0 := by rw [← hnl, hl]; rfl
            have HMS : Hid (Calls Tryd.prog 33 #[.slice A7 nl c7] w8 fun e w' => e = .returned (.slice none 0 0) ∧ w8 = w') := by rw [hn0]; exact memStores_zero w8 A7 c7
            clear hwv hn0 hnl
            have HRN := Lib.hid (memRun w8 HV8.out 0 (by omega) HGA.out none 0 0 [] rfl Sl.nil (fun b hb => by simp [OwnB] at hb) (by omega) (fun p hp => by cases hp))
            rw [HTT.out] at HRN
            go_wp2_with (first
              | (go_at_call 33; refine HMS.out.mono ?_; rintro e w' ⟨rfl, rfl⟩)
              | (go_at_call 31; refine HRN.out.mono ?_; rintro e w9 ⟨rfl, hV9, hC9⟩; have HV9 := Lib.hid hV9; have HC9 := Lib.hid hC9; clear hV9 hC9))
            go_meet
            case rel =>
              exact ⟨F7, _, M + 2, HV9.out, ⟨v, [], HC0.out, .inl ⟨rfl, rfl⟩, fun _ => ⟨HWV.out.symm, rfl⟩⟩, HGA.out, by omega, HNA.out, HFA.out, bl_ch HBW8.out HC9.out (fun b hb => by have := (HF7.out b hb).1; omega)⟩
          · have hS7 := HS7.out
            have hn1 : nl = 1 := by rw [← hnl, hl]; rfl
            rw [hl] at hS7
            have HS8 : Hid (Sl 47 2 w8 A7 1 c7 (wcells [(64, wv)])) := hS7.ch HC8.out (fun b hb hf => by
              have h1 := HF7.out b hf
              have h2 := HO7.out b hb
              have h3 := hS7.lt hb
              omega)
            have hms := (memStores w8 A7 1 c7 [(64, wv)] rfl (by omega) (by omega) HS8.out (fun p hp => by
              have : p = (64, wv) := by simpa using hp
              subst this
              exact ⟨by show (0 : Int) ≤ 64; decide, by show (64 : Int) < _; decide⟩) (by simp [starts]))
            rw [storesP64] at hms HCU
            have HMS : Hid (Calls Tryd.prog 33 #[.slice A7 nl c7] w8 (StoPost w8 [(1, 64, wv), (2, 64, 0), (3, 0, 0)])) := by rw [hn1]; exact hms
            clear hS7 hms hn1 hnl
            have HRN : Hid (∀ (w9 : World) (A9 : Option Addr) (c9 : Nat), Below w8.heap.size w8 w9 → Sl 100 3 w9 A9 3 c9 (pcells [(1, 64, wv), (2, 64, 0), (3, 0, 0)]) → (∀ b, OwnB A9 b → w8.heap.size ≤ b) →
                Calls Tryd.prog 31 #[.slice A9 3 c9, .iface 28 (.pointer (some ⟨T, 0, none⟩))] w9 fun e w' => (∃ y, e = .returned (.int .i64 y)) ∧ CutsRel w d t v wv w') := by
              intro w9 A9 c9 hb hS hO
              have hDV := HV8.out.less hb (fun b => w8.heap.size ≤ b ∧ b < w9.heap.size) (fun b hb => hb)
              have hps : ∀ p ∈ ([(1, 64, wv), (2, 64, 0), (3, 0, 0)] : List Ins), insB p = true ∧ 0 ≤ p.2.1 ∧ p.2.1 < 18446744073709551616 := by
                intro p hp
                simp only [List.mem_cons, List.not_mem_nil, or_false] at hp
                rcases hp with rfl | rfl | rfl
                · exact ⟨rfl, by show (0 : Int) ≤ 64; decide, by show (64 : Int) < _; decide⟩
                · exact ⟨rfl, by show (0 : Int) ≤ 64; decide, by show (64 : Int) < _; decide⟩
                · exact ⟨rfl, by show (0 : Int) ≤ 0; decide, by show (0 : Int) < _; decide⟩
              have := memRun w9 hDV 0 (by omega) HGA.out A9 3 c9 [(1, 64, wv), (2, 64, 0), (3, 0, 0)] rfl hS (fun b hb hf => hf.2 ⟨hO b hb, hS.lt hb⟩) (by omega) hps
              rw [HTT.out] at this
              refine this.mono ?_
              rintro e w' ⟨he, h1, h2⟩
              refine ⟨⟨_, he⟩, _, _, M + 2 + 3, h1, HCU.out, HGA.out.runP (by omega) _ (fun p hp => (hps p hp).2.1) (by simp; omega), by omega, (nl_runP 0 _ _).trans HNA.out, HFA.out.runP 0 _ (fun p hp => ?_), ?_⟩
              · simp only [List.mem_cons, List.not_mem_nil, or_false] at hp
                rcases hp with rfl | rfl | rfl
                · exact HWF.out
                · exact ⟨by show (0 : Int) ≤ 0; decide, by show (0 : Int) < _; decide⟩
                · exact ⟨by show (0 : Int) ≤ 0; decide, by show (0 : Int) < _; decide⟩
              · exact bl_ch (HBW8.out.trans (hb.mono HBW8.out.size)) h2 (fun b hb => by have := (HF7.out b hb.1).1; omega)
            go_wp2_with (first
              | (go_at_call 33; refine HMS.out.mono ?_; rintro e w9 ⟨A9, c9, rfl, hS9, hB9, hO9⟩; have HR9 := Lib.hid (HRN.out w9 A9 c9 hB9 hS9 hO9); clear hS9 hB9 hO9)
              | (go_at_call 31; refine HR9.out.mono ?_; rintro e w10 ⟨⟨y10, rfl⟩, hrel⟩))
            go_meet
            case rel => exact hrel
        case rest =>
          obtain ⟨F3, S3, N3, hV3, ⟨a, h, hC3, hd3, ho3⟩, hG3, hN3', hn3, hF3, hB3⟩ := hcut
          have HIM : Hid (∀ K, ∃ z, (S3.upto K).pers[8]? = some z ∧ (z = v ∨ z = wv) ∧ (S3.off = false → z = wv)) := fun K => cut_image hC3 hd3 K ho3
          have HV3 := Lib.hid hV3
          have HBC := Lib.hid hB3
          have HCR : Hid (∀ (W : World), Below wc.heap.size wc W → ∀ (z0 : Int), 0 ≤ z0 ∧ z0 < 256 → Calls Tryd.prog 34 #[.pointer (some ⟨d, 0, none⟩), .slice (some ⟨W.heap.size, 0, none⟩) 1 1] (W.alloc (.cells #[.int .u8 z0] 5)) fun e w' => ∃ (G : Nat → Prop) (d' : Nat) (t' : Nat → Nat) (pz : List Int) (z : Int), e = .returned (.pointer (some ⟨d', 0, none⟩)) ∧ DV G d' t' w' (newS pz 12) ∧ pz[8]? = some z ∧ (z = v ∨ z = wv) ∧ (S3.off = false → z = wv) ∧ Below (W.alloc (.cells #[.int .u8 z0] 5)).heap.size (W.alloc (.cells #[.int .u8 z0] 5)) w') := by
            intro W hW z0 hz0
            obtain ⟨_, L, _, hD, _⟩ := HV3.out.below (bl_alloc hW (.cells #[.int .u8 z0] 5))
            have hf : ∀ K, (∀ q l, S3.lns[q]? = some l → K q ≤ l.hist.length) → Fits (S3.upto K).pers := fun K _ => (hF3.upto K).pers
            refine (devCrash (W.alloc (.cells #[.int .u8 z0] 5)) d S3 12 (by omega) (by omega) hC3.np hf (some ⟨W.heap.size, 0, none⟩) 1 1 (devImage_some (W.alloc (.cells #[.int .u8 z0] 5)) d L S3 N3 hD hG3 hN3' hf (some ⟨W.heap.size, 0, none⟩) 1 1 [z0] rfl (by omega) (by omega) (rd_one .u8 5 W z0) (fun x hx => by
              have : x = z0 := by simpa using hx
              rw [this]; exact hz0))).mono ?_
            rintro e w' ⟨d', L', K, rfl, hK, hD', hF', hB'⟩
            obtain ⟨z, h1, h2, h3⟩ := HIM.out K
            exact ⟨_, d', L'.t, _, z, rfl, ⟨fun b hb => Nat.le_trans hB'.size hb, L', rfl, hD', hF'⟩, h1, h2, h3, hB'⟩
          clear hV3 hC3 hd3 ho3 hG3 hN3' hn3 hF3 hB3 HIM
          go_wp2
          go_loopw [91, 6, 17, 18, 19, 20, 92, 93, 94, 95, 96, 97, 98, 99, 100, 101, 102, 103, 104, 105, 106, 107, 108, 109, 110, 111, 112, 113, 114, 115, 116, 117, 118, 119, 120, 121, 122, 123, 124, 125] (fun i _ _ _ _ _ _ _ _ _ _ _ _ _ _ _ _ _ _ _ _ _ _ _ _ _ _ _ _ _ _ _ _ _ _ _ _ _ _ _ wr => ∃ k : Nat, k ≤ 3 ∧ i = .int .i64 k ∧ Below wc.heap.size wc wr) (fun i _ _ _ _ _ _ _ _ _ _ _ _ _ _ _ _ _ _ _ _ _ _ _ _ _ _ _ _ _ _ _ _ _ _ _ _ _ _ _ _ => 3 - (intOf i).toNat)
          case atStart => exact ⟨0, by omega, rfl, Below.refl _ _⟩
          case round =>
            obtain ⟨k, hk, rfl, hBk⟩ := hrel
            have HBK := Lib.hid hBk
            by_cases hlt : k < 3
            · have hlt' : (k : Int) < 3 := by omega
              clear hBk
              go_upto_region 28 with (go_at_call 34; refine (HCR.out wr HBK.out (k : Int) (by omega)).mono ?_; rintro e wz ⟨G, d', t', pz, z, rfl, hV', hz, hzv, hzo, hB'⟩; have HV' := Lib.hid hV'; have HZ := Lib.hid hz; have HZV := Lib.hid hzv; have HZO := Lib.hid hzo; have HB' := Lib.hid hB'; clear hV' hz hzv hzo hB')
              have hbw : Below wc.heap.size wc wz := (bl_alloc HBK.out (.cells #[.int .u8 (k : Int)] 5)).trans (HB'.out.mono (bl_alloc HBK.out (.cells #[.int .u8 (k : Int)] 5)).size)
              have HTH := Lib.hid (vThread HV'.out 0 (by omega))
              have HLZ : Hid (Calls Tryd.prog 32 #[.pointer (some ⟨t' 0, 0, none⟩), .int .u64 64] wz fun e w2 => e = .returned (.int .u64 z) ∧ wz = w2) := vLoad HV'.out 0 (by omega) rfl 8 z HZ.out
              have HOF := Lib.hid (off20 (HV3.out.below hbw))
              obtain ⟨tt, htt⟩ : ∃ tt, t' 0 = tt := ⟨_, rfl⟩
              rw [htt] at HTH HLZ
              obtain ⟨of, hof⟩ : ∃ of, S3.off = of := ⟨_, rfl⟩
              rw [hof] at HOF HZO
              have HBW := Lib.hid hbw
              clear hbw htt hof
              by_cases hz1 : z = v
              · have he1 : (z != v) = false := by simpa using hz1
                clear hz1
                cases of with
                | true =>
                  go_wp2_with (first
              | (go_at_call 35; refine HTH.out.mono ?_; rintro e w' ⟨rfl, rfl⟩)
              | (go_at_call 32; refine HLZ.out.mono ?_; rintro e w' ⟨rfl, rfl⟩)
              | (go_at_call 36; refine HOF.out.mono ?_; rintro e w' ⟨rfl, rfl⟩))
                  exact ⟨⟨k + 1, by omega, by go_num, HBW.out⟩, by simp [intOf]; omega⟩
                | false =>
                  have he2 : (z != wv) = false := by simpa using HZO.out rfl
                  go_wp2_with (first
              | (go_at_call 35; refine HTH.out.mono ?_; rintro e w' ⟨rfl, rfl⟩)
              | (go_at_call 32; refine HLZ.out.mono ?_; rintro e w' ⟨rfl, rfl⟩)
              | (go_at_call 36; refine HOF.out.mono ?_; rintro e w' ⟨rfl, rfl⟩))
                  exact ⟨⟨k + 1, by omega, by go_num, HBW.out⟩, by simp [intOf]; omega⟩
              · have he1 : (z != v) = true := by simpa using hz1
                have he2 : (z != wv) = false := by
                  rcases HZV.out with h1 | h1
                  · exact absurd h1 hz1
                  · simpa using h1
                clear hz1
                cases of with
                | true =>
                  go_wp2_with (first
              | (go_at_call 35; refine HTH.out.mono ?_; rintro e w' ⟨rfl, rfl⟩)
              | (go_at_call 32; refine HLZ.out.mono ?_; rintro e w' ⟨rfl, rfl⟩)
              | (go_at_call 36; refine HOF.out.mono ?_; rintro e w' ⟨rfl, rfl⟩))
                  exact ⟨⟨k + 1, by omega, by go_num, HBW.out⟩, by simp [intOf]; omega⟩
                | false =>
                  go_wp2_with (first
              | (go_at_call 35; refine HTH.out.mono ?_; rintro e w' ⟨rfl, rfl⟩)
              | (go_at_call 32; refine HLZ.out.mono ?_; rintro e w' ⟨rfl, rfl⟩)
              | (go_at_call 36; refine HOF.out.mono ?_; rintro e w' ⟨rfl, rfl⟩))
                  exact ⟨⟨k + 1, by omega, by go_num, HBW.out⟩, by simp [intOf]; omega⟩
            · obtain rfl : k = 3 := by omega
              clear hBk
              go_wp2
              go_ret
              exact ⟨rfl, HBC.out.trans (HBK.out.mono HBC.out.size)⟩
end Go.Proofs.YtbhkdngbgokilaaDoor
