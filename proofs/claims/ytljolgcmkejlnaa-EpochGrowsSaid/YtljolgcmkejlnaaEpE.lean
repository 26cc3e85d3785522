/- The reference of epochs; Begin and awake of the laws. -/
import Derived.Test.YtljolgcmkejlnaaEpD
namespace Go.Proofs.Ytljolgcmkejlnaa
open Go.RowKit
set_option linter.unusedVariables false

/-- A clock of the reference. -/
def rcv (now : Int) (an : Nat → Int) : Value := .agg #[.int .u64 now, .int .u64 (an 0), .int .u64 (an 1), .int .u64 (an 2), .int .u64 (an 3), .int .u64 (an 4), .int .u64 (an 5), .int .u64 (an 6), .int .u64 (an 7)]
set_option maxRecDepth 100000 in
set_option maxHeartbeats 1000000 in
theorem refOpen (w : World) (now : Int) (an : Nat → Int) (h : 0 ≤ now ∧ now < 1000000000) : Calls Try.prog 29 #[rcv now an] w fun r w' => r = .returned (rcv (now + 1) (fun _ => 0)) ∧ Below w.heap.size w w' := by
  have e1 : IntKind.u64.wrap (now + 1) = now + 1 := IntWalk.u64_in _ (by omega)
  unfold rcv
  go_enter Try.func29, Try.ntmps29
  go_wp2
  exact bodyPost_ret (v := rcv (now + 1) (fun _ => 0)) (by simp [results, Try.results29, go_sem, rcv]) rfl ⟨rfl, (by repeat (first | with_reducible exact Below.refl _ _ | with_reducible refine bl_alloc ?_ _ | with_reducible refine bl_drew ?_ | with_reducible refine bl_drewN ?_ _ | with_reducible refine bl_bx ?_ _ | with_reducible exact BX.below _ | with_reducible refine bl_set ?_ (by first | (exact Nat.le_refl _) | (simp; done) | (simp; omega)) _ | assumption))⟩

theorem new_good (xs : List Int) (n : Nat) (hx : xs.length = 8 * n) : Good (newS xs n) 0 := by
  refine ⟨by simpa [newS] using hx, by simpa [newS] using hx, fun q l hl => ?_, fun i hi => ⟨Nat.le_refl _, fun x c hc => by simp [newS] at hc⟩⟩
  simp only [newS, List.getElem?_replicate] at hl
  split at hl
  · injection hl with hl; subst hl; simp
  · cases hl
theorem new_clean (xs : List Int) (n : Nat) (hx : xs.length = 8 * n) : Clean (newS xs n) n xs 0 := by
  refine ⟨new_good xs n hx, by simp [newS], rfl, rfl, rfl, rfl, fun q l hl => ?_, fun _ => rfl, fun _ _ => rfl⟩
  simp only [newS, List.getElem?_replicate] at hl
  split at hl
  · injection hl with hl; subst hl; rfl
  · cases hl
/-- The words with a clock of epoch e at line q. -/
def wE (n q : Nat) (e : Int) : List Int := (List.replicate (8 * n) 0).set (8 * q) (packE e)
theorem wE_length (n q : Nat) (e : Int) : (wE n q e).length = 8 * n := by simp [wE]
theorem wE_set (n q : Nat) (e e' : Int) : (wE n q e).set (8 * q) (packE e') = wE n q e' := by simp [wE, List.set_set]
theorem wE_at (n q : Nat) (e : Int) (hq : q < n) : (wE n q e)[8 * q]? = some (packE e) := by
  unfold wE; rw [List.getElem?_set, if_pos rfl, if_pos (by simp; omega)]
theorem wE_zero (n q : Nat) (e : Int) (hq : q < n) (j : Nat) (h1 : 1 ≤ j) (h8 : j < 8) : (wE n q e)[8 * q + j]? = some 0 := by
  unfold wE; rw [List.getElem?_set, if_neg (by omega), List.getElem?_replicate, if_pos (by omega)]
theorem wE_fmt (n q : Nat) (hq : q < n) : applyW (List.replicate (8 * n) 0) (fmtW q) = wE n q 1 := by
  apply List.ext_getElem?
  intro j
  rw [fmt_words _ n q (by simp) hq]
  unfold wE
  rw [List.getElem?_set]
  by_cases h1 : j = 8 * q
  · subst h1; rw [if_pos rfl, if_pos rfl, if_pos (by simp; omega)]
  · rw [if_neg h1, if_neg (show ¬ 8 * q = j from fun h => h1 h.symm)]
    split
    · rw [List.getElem?_replicate, if_pos (by omega)]
    · rfl
section
variable {F : Nat → Prop} {d : Nat} {t : Nat → Nat} {c : Nat} {w w0 : World} {S : DevS} {n q : Nat} {xs : List Int} {e : Int} {an : Nat → Int} {N : Nat}
theorem ckEnter_ok (h : Ep F d t c w S n q xs e an N) (i : Nat) (hi : i < 8) (ha : an i = 0) : Calls Try.prog 22 #[.pointer (some ⟨c, 0, none⟩), .int .i64 (i : Int)] w fun r w' => r = .returned (.tuple #[.int .u64 e, .int .i64 0]) ∧ EpTo F d t c w w' n q xs e (setAn an i e) N :=
  (ckEnter h i hi).mono fun r w' h => by rcases h with h | h; exact h.2; exact absurd ha h.1
theorem ckEnter_no (h : Ep F d t c w S n q xs e an N) (i : Nat) (hi : i < 8) (ha : an i ≠ 0) : Calls Try.prog 22 #[.pointer (some ⟨c, 0, none⟩), .int .i64 (i : Int)] w fun r w' => r = .returned (.tuple #[.int .u64 0, .int .i64 8]) ∧ w = w' :=
  (ckEnter h i hi).mono fun r w' h => by rcases h with h | h; exact absurd h.1 ha; exact h.2
theorem ckExit_ok (h : Ep F d t c w S n q xs e an N) (i : Nat) (hi : i < 8) (ha : an i ≠ 0) : Calls Try.prog 19 #[.pointer (some ⟨c, 0, none⟩), .int .i64 (i : Int)] w fun r w' => r = .returned (.int .i64 0) ∧ EpTo F d t c w w' n q xs e (setAn an i 0) N :=
  (ckExit h i hi).mono fun r w' h => by rcases h with h | h; exact h.2; exact absurd h.1 ha
theorem ckExit_no (h : Ep F d t c w S n q xs e an N) (i : Nat) (hi : i < 8) (ha : an i = 0) : Calls Try.prog 19 #[.pointer (some ⟨c, 0, none⟩), .int .i64 (i : Int)] w fun r w' => r = .returned (.int .i64 8) ∧ w = w' :=
  (ckExit h i hi).mono fun r w' h => by rcases h with h | h; exact absurd ha h.1; exact h.2
theorem ckAdvance_ok (h : Ep F d t c w S n q xs e an N) (hx : xs.length = 8 * n) (he : e < 2147483647) (hN : N + 3 < 1000000) (i : Nat) (hi : i < 8) (hf : freeB e an = true) : Calls Try.prog 15 #[.pointer (some ⟨c, 0, none⟩), .int .i64 (i : Int)] w fun r w' => r = .returned (.tuple #[.int .u64 (e + 1), .int .i64 0]) ∧ EpTo F d t c w w' n q (xs.set (8 * q) (packE (e + 1))) (e + 1) an (N + 3) :=
  (ckAdvance h hx he hN i hi).mono fun r w' h => by unfold AdvPost at h; rwa [hf] at h
theorem ckAdvance_no (h : Ep F d t c w S n q xs e an N) (hx : xs.length = 8 * n) (he : e < 2147483647) (hN : N + 3 < 1000000) (i : Nat) (hi : i < 8) (hf : freeB e an = false) : Calls Try.prog 15 #[.pointer (some ⟨c, 0, none⟩), .int .i64 (i : Int)] w fun r w' => r = .returned (.tuple #[.int .u64 0, .int .i64 7]) ∧ w = w' :=
  (ckAdvance h hx he hN i hi).mono fun r w' h => by unfold AdvPost at h; rwa [hf] at h
end
/-- What Begin leaves. -/
def BegPost (w : World) (r : Ending) (w' : World) : Prop :=
  ∃ d t c S, r = .returned (.tuple #[.pointer (some ⟨d, 0, none⟩), .pointer (some ⟨c, 0, none⟩), rcv 2 (fun _ => 0)]) ∧ Ep (fun b => w.heap.size ≤ b ∧ b ≠ c) d t c w' S 4 2 (wE 4 2 2) 2 (fun _ => 0) 13 ∧ w.heap.size ≤ c ∧ Below w.heap.size w w'
theorem Ep.mono {F G : Nat → Prop} {d : Nat} {t : Nat → Nat} {c : Nat} {w : World} {S : DevS} {n q : Nat} {xs : List Int} {e : Int} {an : Nat → Int} {N : Nat} (h : Ep F d t c w S n q xs e an N) (hG : ∀ b, F b → G b) (hc : ¬ G c) : Ep G d t c w S n q xs e an N :=
  ⟨h.dv.mono hG, h.cl, h.ck, hc, h.hq, h.hn, h.wd, h.he⟩
theorem Ep.below {F : Nat → Prop} {d : Nat} {t : Nat → Nat} {c : Nat} {w w' : World} {S : DevS} {n q : Nat} {xs : List Int} {e : Int} {an : Nat → Int} {N : Nat} (h : Ep F d t c w S n q xs e an N) (hb : Below w.heap.size w w') : Ep F d t c w' S n q xs e an N :=
  ⟨h.dv.below hb, h.cl, CB.below h.ck hb, h.nf, h.hq, h.hn, h.wd, h.he⟩
theorem Ep.set {F : Nat → Prop} {d : Nat} {t : Nat → Nat} {c : Nat} {w w' : World} {S : DevS} {n q : Nat} {xs : List Int} {e : Int} {an : Nat → Int} {N : Nat} {T : Nat → Prop} (h : Ep F d t c w S n q xs e an N) (hc : Ch T w w') (hT : ∀ b, b < w.heap.size → (F b ∨ b = c) → ¬ T b) : Ep F d t c w' S n q xs e an N :=
  ⟨h.dv.ch hc (fun b hb hf => hT b hb (.inl hf)), h.cl, CB.ch h.ck hc (hT c h.ck.lt (.inr rfl)), h.nf, h.hq, h.hn, h.wd, h.he⟩

set_option maxRecDepth 100000 in
set_option maxHeartbeats 2000000 in
theorem begin18 (w : World) : Calls Try.prog 9 #[] w (BegPost w) := by
  go_enter Try.func9, Try.ntmps9
  go_wp2_with (first
    | (go_at_call 23; refine (devNew _ 4 (by omega) (by omega)).mono ?_; rintro r w1 ⟨d, L, rfl, hD, hb, hF⟩; have HV : Hid (DV (fun b => w.heap.size + 1 ≤ b) d L.t w1 (newS (List.replicate 32 0) 4)) := (⟨(fun b hb' => by have := hb.size; simp at this; omega), L, rfl, hD, (fun b hb' => by have := hF b hb'; simpa using this)⟩); obtain ⟨x, rfl⟩ := bx_of hb; clear hb hD hF)
    | (go_at_call 26; refine (threadV HV.out 0 (by omega)).mono ?_; rintro r w' ⟨rfl, rfl⟩)
    | (go_at_call 25; refine (ckFormat (q := 2) HV.out (new_clean _ 4 (by simp)) (by omega) (by omega) 0 (by omega) (by omega)).mono ?_; rintro r w2 ⟨rfl, ⟨S2, hD2, hC2⟩, hCh2⟩; rw [wE_fmt 4 2 (by omega)] at hC2; have HD2 := Lib.hid hD2; have HC2 := Lib.hid hC2; have HCh2 := Lib.hid hCh2; clear hD2 hC2 hCh2)
    | (go_at_call 24; refine (ckOpen (q := 2) (e := 1) HD2.out HC2.out (by omega) (by omega) (wE_length 4 2 1) (wE_at 4 2 1 (by omega)) (by omega) (wE_zero 4 2 1 (by omega)) (by omega)).mono ?_; rintro r w3 ⟨c, S3, rfl, hE3, hc3, hCh3⟩; rw [wE_set, show (1 : Int) + 1 = 2 from rfl] at hE3; have HE3 := Lib.hid hE3; have HCh3 := Lib.hid hCh3; clear hE3 hCh3)
    | (go_at_call 29; refine (refOpen _ 1 (fun _ => 0) (by omega)).mono ?_; rintro r w4 ⟨rfl, hb4⟩; obtain ⟨y, rfl⟩ := bx_of hb4; clear hb4; have hR : CB y.w w.heap.size 28 #[.int .u64 0, .int .u64 0, .int .u64 0, .int .u64 0, .int .u64 0, .int .u64 0, .int .u64 0, .int .u64 0, .int .u64 0] := (((((CB.new w _ _).bx x).ch HCh2.out (fun h => by omega)).ch HCh3.out (fun h => by omega)).bx y); have hRl := hR.lt; have r0 := hR.cell 0; have r1 := hR.cell 1; have r2 := hR.cell 2; have r3 := hR.cell 3; have r4 := hR.cell 4; have r5 := hR.cell 5; have r6 := hR.cell 6; have r7 := hR.cell 7; have r8 := hR.cell 8; have f0 := hR.frozen 0; have f1 := hR.frozen 1; have f2 := hR.frozen 2; have f3 := hR.frozen 3; have f4 := hR.frozen 4; have f5 := hR.frozen 5; have f6 := hR.frozen 6; have f7 := hR.frozen 7; have f8 := hR.frozen 8; have HR := Lib.hid hR; clear hR; unfold rcv))
  have hx := x.size
  have h2 := HCh2.out.size
  have hcw : w.heap.size + 1 ≤ c := by simp at hx; omega
  have hE := (HE3.out.below y.below)
  have hC9 : Ch (At w.heap.size) y.w (((((((((y.w.setCell ⟨w.heap.size, 0, none⟩ (.int .u64 2)).setCell ⟨w.heap.size, 1, none⟩ (.int .u64 0)).setCell ⟨w.heap.size, 2, none⟩ (.int .u64 0)).setCell ⟨w.heap.size, 3, none⟩ (.int .u64 0)).setCell ⟨w.heap.size, 4, none⟩ (.int .u64 0)).setCell ⟨w.heap.size, 5, none⟩ (.int .u64 0)).setCell ⟨w.heap.size, 6, none⟩ (.int .u64 0)).setCell ⟨w.heap.size, 7, none⟩ (.int .u64 0)).setCell ⟨w.heap.size, 8, none⟩ (.int .u64 0)) := ((((((((((Ch.refl _ _).set1 0 _).set1 1 _).set1 2 _).set1 3 _).set1 4 _).set1 5 _).set1 6 _).set1 7 _).set1 8 _)
  refine bodyPost_ret (v := .tuple #[.pointer (some ⟨d, 0, none⟩), .pointer (some ⟨c, 0, none⟩), rcv 2 (fun _ => 0)]) (by simp [results, Try.results9, go_sem, rcv, r0, r1, r2, r3, r4, r5, r6, r7, r8]) rfl ⟨d, L.t, c, S3, rfl, ?_, by omega, ?_⟩
  · exact (hE.set hC9 (fun b hb hF h => by
      have hb' : b = w.heap.size := h
      rcases hF with hf | hf
      · have := hf.1; omega
      · omega)).mono (fun b hb => ⟨by have := hb.1; omega, hb.2⟩) (fun h => h.2 rfl)
  · exact bl_ch (bl_bx (bl_ch (bl_ch (bl_bx (bl_alloc (Below.refl _ _) _) x) HCh2.out (fun b hb => by omega)) HCh3.out (fun b hb => by omega)) y) hC9 (fun b hb => by rw [show b = w.heap.size from hb]; exact Nat.le_refl _)

set_option maxRecDepth 100000 in
set_option maxHeartbeats 2000000 in
theorem awake18 (w : World) : Calls Try.prog 10 #[] w fun r w' => r = .returned (.bool true) ∧ Below w.heap.size w w' := by
  go_enter Try.func10, Try.ntmps10
  go_wp2_with (first
    | (go_at_call 9; refine (begin18 _).mono ?_; rintro r w1 ⟨d, t, c, S, rfl, hE, hc, hb⟩; have HE := Lib.hid hE; have HB := Lib.hid hb; clear hE hb; unfold rcv)
    | (go_at_call 16; refine (ckNow (HE.out.below (bl_alloc (Below.refl _ _) _))).mono ?_; rintro r w' ⟨rfl, rfl⟩)
    | (go_at_call 22; refine (ckEnter_ok (HE.out.below (bl_alloc (Below.refl _ _) _)) 0 (by omega) rfl).mono ?_; rintro r w2 ⟨rfl, S2, hE2, hC2⟩; have HE2 := Lib.hid hE2; have HC2 := Lib.hid hC2; clear hE2 hC2)
    | (go_at_call 15; refine (ckAdvance_ok HE2.out (wE_length 4 2 2) (by omega) (by omega) 1 (by omega) rfl).mono ?_; rintro r w3 ⟨rfl, S3, hE3, hC3⟩; have HE3 := Lib.hid hE3; have HC3 := Lib.hid hC3; clear hE3 hC3)
    | (go_at_call 18; refine (ckSafe HE3.out 2).mono ?_; rw [show safeB (2 + 1) (setAn (fun _ => 0) 0 2) 2 = false from rfl]; rintro r w' ⟨rfl, rfl⟩))
  go_ret
  refine ⟨rfl, ?_⟩
  have hS : ∀ b, (w.heap.size ≤ b ∧ b ≠ c) ∨ b = c → w.heap.size ≤ b := fun b hb => by rcases hb with h | h; exact h.1; omega
  exact bl_ch (bl_ch (bl_alloc HB.out _) HC2.out hS) HC3.out hS
end Go.Proofs.Ytljolgcmkejlnaa
