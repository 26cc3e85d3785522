/- Calls with any thread number; do of the laws. -/
import Derived.Test.YtljolgcmkejlnaaEpR
namespace Go.Proofs.Ytljolgcmkejlnaa
open Go.RowKit
set_option linter.unusedVariables false

def enterF (e : Int) (an : Nat → Int) (z : Int) : Int × Int × (Nat → Int) := if z < 0 ∨ 8 ≤ z then (0, 1, an) else if an z.toNat = 0 then (e, 0, setAn an z.toNat e) else (0, 8, an)
def exitF (an : Nat → Int) (z : Int) : Int × (Nat → Int) := if z < 0 ∨ 8 ≤ z then (1, an) else if an z.toNat = 0 then (8, an) else (0, setAn an z.toNat 0)
def advF (e : Int) (an : Nat → Int) (z : Int) : Int × Int × Int := if z < 0 ∨ 8 ≤ z then (0, 1, e) else if freeB e an then (e + 1, 0, e + 1) else (0, 7, e)
section
variable {F : Nat → Prop} {d : Nat} {t : Nat → Nat} {c : Nat} {w w0 : World} {S : DevS} {n q : Nat} {xs : List Int} {e : Int} {an : Nat → Int} {N : Nat}
theorem Ep.to (h : Ep F d t c w S n q xs e an N) : EpTo F d t c w w n q xs e an N := ⟨S, h, Ch.refl _ _⟩
theorem ckEnter_any (h : Ep F d t c w S n q xs e an N) (z : Int) : Calls Try.prog 22 #[.pointer (some ⟨c, 0, none⟩), .int .i64 z] w fun r w' => r = .returned (.tuple #[.int .u64 (enterF e an z).1, .int .i64 (enterF e an z).2.1]) ∧ EpTo F d t c w w' n q xs e (enterF e an z).2.2 N := by
  unfold enterF
  by_cases hz : z < 0 ∨ 8 ≤ z
  · rw [if_pos hz]
    exact (ckEnter_bad w _ z (.inr hz)).mono fun r w' ⟨a, b⟩ => ⟨a, by subst b; exact h.to⟩
  · rw [if_neg hz]
    obtain ⟨i, rfl⟩ : ∃ i : Nat, z = (i : Int) := ⟨z.toNat, by omega⟩
    rw [Int.toNat_natCast]
    by_cases ha : an i = 0
    · rw [if_pos ha]
      exact ckEnter_ok h i (by omega) ha
    · rw [if_neg ha]
      exact (ckEnter_no h i (by omega) ha).mono fun r w' ⟨a, b⟩ => ⟨a, by subst b; exact h.to⟩
theorem ckExit_any (h : Ep F d t c w S n q xs e an N) (z : Int) : Calls Try.prog 19 #[.pointer (some ⟨c, 0, none⟩), .int .i64 z] w fun r w' => r = .returned (.int .i64 (exitF an z).1) ∧ EpTo F d t c w w' n q xs e (exitF an z).2 N := by
  unfold exitF
  by_cases hz : z < 0 ∨ 8 ≤ z
  · rw [if_pos hz]
    exact (ckExit_bad w _ z (.inr hz)).mono fun r w' ⟨a, b⟩ => ⟨a, by subst b; exact h.to⟩
  · rw [if_neg hz]
    obtain ⟨i, rfl⟩ : ∃ i : Nat, z = (i : Int) := ⟨z.toNat, by omega⟩
    rw [Int.toNat_natCast]
    by_cases ha : an i = 0
    · rw [if_pos ha]
      exact (ckExit_no h i (by omega) ha).mono fun r w' ⟨a, b⟩ => ⟨a, by subst b; exact h.to⟩
    · rw [if_neg ha]
      exact ckExit_ok h i (by omega) ha
theorem Ep.up (h : Ep F d t c w S n q xs e an N) {M : Nat} (hM : N ≤ M) : Ep F d t c w S n q xs e an M := ⟨h.dv, h.cl.mono hM, h.ck, h.nf, h.hq, h.hn, h.wd, h.he⟩
theorem ckAdvance_any (h : Ep F d t c w S n q (wE n q e) e an N) (he : e < 2147483647) (hN : N + 3 < 1000000) (z : Int) : Calls Try.prog 15 #[.pointer (some ⟨c, 0, none⟩), .int .i64 z] w fun r w' => r = .returned (.tuple #[.int .u64 (advF e an z).1, .int .i64 (advF e an z).2.1]) ∧ EpTo F d t c w w' n q (wE n q (advF e an z).2.2) (advF e an z).2.2 an (N + 3) := by
  unfold advF
  by_cases hz : z < 0 ∨ 8 ≤ z
  · rw [if_pos hz]
    exact (ckAdvance_bad w _ z (.inr hz)).mono fun r w' ⟨a, b⟩ => ⟨a, by subst b; exact (h.up (by omega)).to⟩
  · rw [if_neg hz]
    obtain ⟨i, rfl⟩ : ∃ i : Nat, z = (i : Int) := ⟨z.toNat, by omega⟩
    cases hf : freeB e an
    · exact (ckAdvance_no h (wE_length n q e) he hN i (by omega) hf).mono fun r w' ⟨a, b⟩ => ⟨a, by subst b; exact (h.up (by omega)).to⟩
    · exact (ckAdvance_ok h (wE_length n q e) he hN i (by omega) hf).mono fun r w' ⟨a, b⟩ => ⟨a, by rw [wE_set] at b; exact b⟩
/-- Blocks that were made since belong to others. -/
theorem Ep.less (h : Ep F d t c w S n q xs e an N) {w' : World} (hb : Below w.heap.size w w') (X : Nat → Prop) (hX : ∀ b, X b → w.heap.size ≤ b ∧ b < w'.heap.size) : Ep (fun b => F b ∧ ¬ X b) d t c w' S n q xs e an N :=
  ⟨h.dv.less hb X hX, h.cl, CB.below h.ck hb, fun hf => h.nf hf.1, h.hq, h.hn, h.wd, h.he⟩
end
theorem refEnter_any (w : World) (e : Int) (an : Nat → Int) (z : Int) : Calls Try.prog 32 #[rcv e an, .int .i64 z] w fun r w' => r = .returned (.tuple #[rcv e (enterF e an z).2.2, .int .u64 (enterF e an z).1, .int .i64 (enterF e an z).2.1]) ∧ Below w.heap.size w w' := by
  unfold enterF
  by_cases hz : z < 0 ∨ 8 ≤ z
  · rw [if_pos hz]
    exact refEnter_bad w e an z (by omega)
  · rw [if_neg hz]
    obtain ⟨i, rfl⟩ : ∃ i : Nat, z = (i : Int) := ⟨z.toNat, by omega⟩
    rw [Int.toNat_natCast]
    by_cases ha : an i = 0
    · rw [if_pos ha]; exact refEnter_ok w e an i (by omega) ha
    · rw [if_neg ha]; exact refEnter_no w e an i (by omega) ha
theorem refExit_any (w : World) (e : Int) (an : Nat → Int) (z : Int) : Calls Try.prog 33 #[rcv e an, .int .i64 z] w fun r w' => r = .returned (.tuple #[rcv e (exitF an z).2, .int .i64 (exitF an z).1]) ∧ Below w.heap.size w w' := by
  unfold exitF
  by_cases hz : z < 0 ∨ 8 ≤ z
  · rw [if_pos hz]
    exact refExit_bad w e an z (by omega)
  · rw [if_neg hz]
    obtain ⟨i, rfl⟩ : ∃ i : Nat, z = (i : Int) := ⟨z.toNat, by omega⟩
    rw [Int.toNat_natCast]
    by_cases ha : an i = 0
    · rw [if_pos ha]; exact refExit_no w e an i (by omega) ha
    · rw [if_neg ha]; exact refExit_ok w e an i (by omega) ha
theorem refAdvance_any (w : World) (e : Int) (an : Nat → Int) (he : 0 ≤ e ∧ e < 1000000000) (z : Int) : Calls Try.prog 34 #[rcv e an, .int .i64 z] w fun r w' => r = .returned (.tuple #[rcv (advF e an z).2.2 an, .int .u64 (advF e an z).1, .int .i64 (advF e an z).2.1]) ∧ Below w.heap.size w w' := by
  unfold advF
  by_cases hz : z < 0 ∨ 8 ≤ z
  · rw [if_pos hz]
    exact refAdvance_bad w e an z (by omega)
  · rw [if_neg hz]
    obtain ⟨i, rfl⟩ : ∃ i : Nat, z = (i : Int) := ⟨z.toNat, by omega⟩
    refine (refAdvance w e an he i (by omega)).mono fun r w' h => ?_
    obtain ⟨h1, h2⟩ := h
    cases hf : freeB e an
    · rw [hf] at h1; exact ⟨h1, h2⟩
    · rw [hf] at h1; exact ⟨h1, h2⟩

/-- The clock after a call. -/
def doS (e : Int) (an : Nat → Int) (k z : Int) : Int × (Nat → Int) :=
  if k % 4 = 0 then (e, (enterF e an z).2.2) else if k % 4 = 1 then (e, (exitF an z).2) else if k % 4 = 2 then ((advF e an z).2.2, an) else (e + 1, fun _ => 0)
/-- What do leaves. -/
def DoPost (F : Nat → Prop) (d : Nat) (t : Nat → Nat) (c : Nat) (e : Int) (an : Nat → Int) (N : Nat) (e2 : Int) (an2 : Nat → Int) (k z : Int) (w : World) (r : Ending) (w' : World) : Prop :=
  ∃ F' c' S' b, r = .returned (.tuple #[.pointer (some ⟨c', 0, none⟩), rcv (doS e2 an2 k z).1 (doS e2 an2 k z).2, .bool b]) ∧ (e2 = e → an2 = an → b = true) ∧
    Ep F' d t c' w' S' 4 2 (wE 4 2 (doS e an k z).1) (doS e an k z).1 (doS e an k z).2 (N + 3) ∧ (∀ b, F' b → F b) ∧ (c' = c ∨ w.heap.size ≤ c') ∧ (k % 4 ≠ 3 → c' = c) ∧ Ch (fun b => F b ∨ b = c) w w'

def rcC (now : Int) (an : Nat → Int) : Array Value := #[.int .u64 now, .int .u64 (an 0), .int .u64 (an 1), .int .u64 (an 2), .int .u64 (an 3), .int .u64 (an 4), .int .u64 (an 5), .int .u64 (an 6), .int .u64 (an 7)]
theorem CB.rc {w : World} {g : Nat} {e : Int} {an : Nat → Int} (h : CB w g 28 (rcC e an)) : w.cell? ⟨g, 0, none⟩ = some (.int .u64 e) ∧ w.cell? ⟨g, 1, none⟩ = some (.int .u64 (an 0)) ∧ w.cell? ⟨g, 2, none⟩ = some (.int .u64 (an 1)) ∧ w.cell? ⟨g, 3, none⟩ = some (.int .u64 (an 2)) ∧ w.cell? ⟨g, 4, none⟩ = some (.int .u64 (an 3)) ∧ w.cell? ⟨g, 5, none⟩ = some (.int .u64 (an 4)) ∧ w.cell? ⟨g, 6, none⟩ = some (.int .u64 (an 5)) ∧ w.cell? ⟨g, 7, none⟩ = some (.int .u64 (an 6)) ∧ w.cell? ⟨g, 8, none⟩ = some (.int .u64 (an 7)) ∧ g < w.heap.size :=
  ⟨h.cell 0, h.cell 1, h.cell 2, h.cell 3, h.cell 4, h.cell 5, h.cell 6, h.cell 7, h.cell 8, h.lt⟩
theorem CB.rcf {w : World} {g : Nat} {e : TypeId} {cs : Array Value} (h : CB w g e cs) : w.frozen? ⟨g, 0, none⟩ = false ∧ w.frozen? ⟨g, 1, none⟩ = false ∧ w.frozen? ⟨g, 2, none⟩ = false ∧ w.frozen? ⟨g, 3, none⟩ = false ∧ w.frozen? ⟨g, 4, none⟩ = false ∧ w.frozen? ⟨g, 5, none⟩ = false ∧ w.frozen? ⟨g, 6, none⟩ = false ∧ w.frozen? ⟨g, 7, none⟩ = false ∧ w.frozen? ⟨g, 8, none⟩ = false :=
  ⟨h.frozen 0, h.frozen 1, h.frozen 2, h.frozen 3, h.frozen 4, h.frozen 5, h.frozen 6, h.frozen 7, h.frozen 8⟩
/-- The blocks of do's own. -/
def Own3 (w : World) (g : Nat) (e2 : Int) (an2 : Nat → Int) (k z : Int) : Prop := CB w g 28 (rcC e2 an2) ∧ CB w (g + 1) 35 #[.int .i64 k, .int .i64 z] ∧ CB w (g + 1 + 1) 28 (rcC 0 (fun _ => 0))
theorem Own3.ch {w w' : World} {g : Nat} {e2 : Int} {an2 : Nat → Int} {k z : Int} {T : Nat → Prop} (h : Own3 w g e2 an2 k z) (hc : Ch T w w') (hT : ∀ b, g ≤ b → b ≤ g + 2 → ¬ T b) : Own3 w' g e2 an2 k z :=
  ⟨h.1.ch hc (hT _ (by omega) (by omega)), h.2.1.ch hc (hT _ (by omega) (by omega)), h.2.2.ch hc (hT _ (by omega) (by omega))⟩
theorem own3_new (w : World) (e2 : Int) (an2 : Nat → Int) (k z : Int) : Own3 (((w.alloc (.cells (rcC e2 an2) 28)).alloc (.cells #[.int .i64 k, .int .i64 z] 35)).alloc (.cells (rcC 0 (fun _ => 0)) 28)) w.heap.size e2 an2 k z :=
  ⟨((CB.new w _ _).alloc _).alloc _, (CB.new_at _ _ _ (by simp)).alloc _, CB.new_at _ _ _ (by simp)⟩
section
variable {F : Nat → Prop} {d : Nat} {t : Nat → Nat} {c : Nat} {w w0 : World} {S : DevS} {e : Int} {an : Nat → Int} {N : Nat}
set_option maxRecDepth 100000 in
set_option maxHeartbeats 4000000 in
theorem do_exit (h : Ep F d t c w S 4 2 (wE 4 2 e) e an N) (e2 : Int) (an2 : Nat → Int) (k z : Int) (hk : -9223372036854775808 ≤ k ∧ k < 9223372036854775808) (hk4 : k % 4 = 1) :
    Calls Try.prog 11 #[.pointer (some ⟨d, 0, none⟩), .pointer (some ⟨c, 0, none⟩), rcv e2 an2, .agg #[.int .i64 k, .int .i64 z]] w (DoPost F d t c e an N e2 an2 k z w) := by
  have HM : Hid (∀ W, Calls Try.prog 17 #[.int .i64 k, .int .i64 4] W fun r w' => r = .returned (.int .i64 1) ∧ W = w') := fun W => by have := mod18 W k hk 4 (by omega); rwa [hk4] at this
  have HDS : Hid (doS e an k z = (e, (exitF an z).2) ∧ doS e2 an2 k z = (e2, (exitF an2 z).2)) := by show _ ∧ _; unfold doS; rw [hk4]; exact ⟨rfl, rfl⟩
  have HK := Lib.hid hk4
  have H := Lib.hid h
  have hcl := h.ck.lt
  clear h hk4
  have HE0 : Hid (Ep (fun b => F b ∧ ¬ (w.heap.size ≤ b ∧ b ≤ w.heap.size + 2)) d t c (((w.alloc (.cells (rcC e2 an2) 28)).alloc (.cells #[.int .i64 k, .int .i64 z] 35)).alloc (.cells (rcC 0 (fun _ => 0)) 28)) S 4 2 (wE 4 2 e) e an N) := H.out.less (by (repeat (first | with_reducible exact Below.refl _ _ | with_reducible refine bl_alloc ?_ _ | with_reducible refine bl_drew ?_ | with_reducible refine bl_drewN ?_ _ | with_reducible refine bl_bx ?_ _ | with_reducible exact BX.below _ | with_reducible refine bl_set ?_ (by first | (exact Nat.le_refl _) | (simp; done) | (simp; omega)) _ | assumption))) (fun b => w.heap.size ≤ b ∧ b ≤ w.heap.size + 2) (fun b hb => ⟨hb.1, by simp; omega⟩)
  have HO0 := Lib.hid (own3_new w e2 an2 k z)
  have HB0 : Hid (Ch F w (((w.alloc (.cells (rcC e2 an2) 28)).alloc (.cells #[.int .i64 k, .int .i64 z] 35)).alloc (.cells (rcC 0 (fun _ => 0)) 28))) := (((Ch.refl _ _).alloc _).alloc _).alloc _
  have HS0 : Hid ((((w.alloc (.cells (rcC e2 an2) 28)).alloc (.cells #[.int .i64 k, .int .i64 z] 35)).alloc (.cells (rcC 0 (fun _ => 0)) 28)).heap.size = w.heap.size + 3) := by show _ = _; simp
  obtain ⟨x, hx⟩ : ∃ x, (exitF an z).1 = x := ⟨_, rfl⟩
  obtain ⟨ax, hax⟩ : ∃ ax, (exitF an z).2 = ax := ⟨_, rfl⟩
  obtain ⟨x2, hx2⟩ : ∃ x, (exitF an2 z).1 = x := ⟨_, rfl⟩
  obtain ⟨ax2, hax2⟩ : ∃ ax, (exitF an2 z).2 = ax := ⟨_, rfl⟩
  have HXX : Hid (an2 = an → x2 = x) := by show _ → _; rintro rfl; rw [← hx, ← hx2]
  have HEX := fun W S' hE => ckExit_any (w := W) (S := S') (F := fun b => F b ∧ ¬ (w.heap.size ≤ b ∧ b ≤ w.heap.size + 2)) (d := d) (t := t) (c := c) (n := 4) (q := 2) (xs := wE 4 2 e) (e := e) (an := an) (N := N) hE z
  have HRX := fun W => refExit_any W e2 an2 z
  rw [hx, hax] at HEX
  rw [hx2, hax2] at HRX
  rw [hax, hax2] at HDS
  have HEX' := Lib.hid HEX
  have HRX' := Lib.hid HRX
  clear HEX HRX hx hax hx2 hax2
  unfold rcv
  unfold rcC at HE0 HO0 HB0 HS0
  go_enter Try.func11, Try.ntmps11
  go_wp2_with (first
    | (go_at_call 17; refine (HM.out _).mono ?_; rintro r w' ⟨rfl, rfl⟩)
    | (go_at_call 19; refine (HEX'.out _ _ HE0.out).mono ?_; rintro r w1 ⟨rfl, S1, hE1, hC1⟩; have hO1 := HO0.out.ch hC1 (fun b h1 h2 h3 => by rcases h3 with h3 | h3; exact h3.2 ⟨h1, h2⟩; omega); obtain ⟨r0, r1, r2, r3, r4, r5, r6, r7, r8, rl⟩ := hO1.1.rc; have s1 : w1.cell? ⟨w.heap.size + 1, 1, none⟩ = some (.int .i64 z) := hO1.2.1.cell 1; have sl := hO1.2.1.lt; have HO1 := Lib.hid hO1; have HE1 := Lib.hid hE1; have HC1 := Lib.hid hC1; clear hO1 hE1 hC1)
    | (go_at_call 33; refine (HRX'.out _).mono ?_; rintro r w2 ⟨rfl, hb2⟩; have hO2 := HO1.out.ch (Ch.of_below (S := fun _ => False) hb2) (fun _ _ _ h => h); obtain ⟨q0, q1, q2, q3, q4, q5, q6, q7, q8, ql⟩ := hO2.2.2.rc; obtain ⟨f0, f1, f2, f3, f4, f5, f6, f7, f8⟩ := hO2.2.2.rcf; have HO2 := Lib.hid hO2; have HB2 := Lib.hid hb2; clear hO2 hb2; unfold rcv))
  have hO3 := HO2.out.ch (Ch.of_below (S := fun _ => False) (bl_alloc (a := w2) (Below.refl _ _) (.cells #[.int .u64 e2, .int .u64 (ax2 0), .int .u64 (ax2 1), .int .u64 (ax2 2), .int .u64 (ax2 3), .int .u64 (ax2 4), .int .u64 (ax2 5), .int .u64 (ax2 6), .int .u64 (ax2 7)] 28))) (fun _ _ _ h => h)
  have hN3 : CB (w2.alloc (.cells #[.int .u64 e2, .int .u64 (ax2 0), .int .u64 (ax2 1), .int .u64 (ax2 2), .int .u64 (ax2 3), .int .u64 (ax2 4), .int .u64 (ax2 5), .int .u64 (ax2 6), .int .u64 (ax2 7)] 28)) w2.heap.size 28 (rcC e2 ax2) := CB.new w2 _ _
  have HB3 : Hid (Below w1.heap.size w1 (w2.alloc (.cells #[.int .u64 e2, .int .u64 (ax2 0), .int .u64 (ax2 1), .int .u64 (ax2 2), .int .u64 (ax2 3), .int .u64 (ax2 4), .int .u64 (ax2 5), .int .u64 (ax2 6), .int .u64 (ax2 7)] 28))) := bl_alloc HB2.out _
  clear q0 q1 q2 q3 q4 q5 q6 q7 q8 ql f0 f1 f2 f3 f4 f5 f6 f7 f8 r0 r1 r2 r3 r4 r5 r6 r7 r8 rl s1 sl
  have hg2 : ¬ w2.heap.size = w.heap.size + 1 + 1 := by have := HO2.out.2.2.lt; omega
  have hg3 : ¬ w.heap.size + 1 + 1 = w2.heap.size := by omega
  obtain ⟨gn, hgn⟩ : ∃ gn, w2.heap.size = gn := ⟨_, rfl⟩
  obtain ⟨W3, hW3⟩ : ∃ W3, w2.alloc (.cells #[.int .u64 e2, .int .u64 (ax2 0), .int .u64 (ax2 1), .int .u64 (ax2 2), .int .u64 (ax2 3), .int .u64 (ax2 4), .int .u64 (ax2 5), .int .u64 (ax2 6), .int .u64 (ax2 7)] 28) = W3 := ⟨_, rfl⟩
  rw [hgn] at hN3 hg2 hg3
  rw [hW3] at hO3 hN3 HB3
  rw [hgn, hW3]
  clear hW3 hgn
  obtain ⟨n0, n1, n2, n3, n4, n5, n6, n7, n8, nl⟩ := hN3.rc
  obtain ⟨q0, q1, q2, q3, q4, q5, q6, q7, q8, ql⟩ := hO3.2.2.rc
  obtain ⟨f0, f1, f2, f3, f4, f5, f6, f7, f8⟩ := hO3.2.2.rcf
  have HO3 := Lib.hid hO3
  clear hO3 hN3 HO2 HB2
  go_region
  go_wp2
  refine bodyPost_ret (v := .tuple #[.pointer (some ⟨c, 0, none⟩), rcv e2 ax2, .bool (x == x2)]) (by simp [results, Try.results11, go_sem, rcv, q0, q1, q2, q3, q4, q5, q6, q7, q8]) rfl ?_
  have hend : ∀ W4, Ch (At (w.heap.size + 1 + 1)) W3 W4 → DoPost F d t c e an N e2 an2 k z w (.returned (.tuple #[.pointer (some ⟨c, 0, none⟩), rcv e2 ax2, .bool (x == x2)])) W4 := by
    intro W4 hC4
    refine ⟨(fun b => F b ∧ ¬ (w.heap.size ≤ b ∧ b ≤ w.heap.size + 2)), c, S1, (x == x2), ?_, ?_, ?_, fun b hb => hb.1, .inl rfl, fun _ => rfl, ?_⟩
    · rw [HDS.out.2]
    · rintro _ h2
      rw [HXX.out h2]; simp
    · rw [HDS.out.1]
      exact ((HE1.out.below HB3.out).set hC4 (fun b hb hF h => by
        have hb' : b = w.heap.size + 1 + 1 := h
        rcases hF with hf | hf
        · exact hf.2 ⟨by omega, by omega⟩
        · omega)).up (by omega)
    · refine ((((HB0.out.mono (fun b hb _ => .inl hb)).trans HC1.out (fun b hb _ => ?_)).trans (Ch.of_below (S := fun _ => False) HB3.out) (fun b hb => hb.elim)).trans hC4 (fun b hb hlt => ?_))
      · rcases hb with h | h
        · exact .inl h.1
        · exact .inr h
      · have hb' : b = w.heap.size + 1 + 1 := hb
        omega
  exact hend _ (by repeat (first | with_reducible exact Ch.refl _ _ | with_reducible refine Ch.drew ?_ | with_reducible refine Ch.set1 ?_ _ _))
set_option maxRecDepth 100000 in
set_option maxHeartbeats 4000000 in
theorem do_enter (h : Ep F d t c w S 4 2 (wE 4 2 e) e an N) (e2 : Int) (an2 : Nat → Int) (k z : Int) (hk : -9223372036854775808 ≤ k ∧ k < 9223372036854775808) (hk4 : k % 4 = 0) :
    Calls Try.prog 11 #[.pointer (some ⟨d, 0, none⟩), .pointer (some ⟨c, 0, none⟩), rcv e2 an2, .agg #[.int .i64 k, .int .i64 z]] w (DoPost F d t c e an N e2 an2 k z w) := by
  have HM : Hid (∀ W, Calls Try.prog 17 #[.int .i64 k, .int .i64 4] W fun r w' => r = .returned (.int .i64 0) ∧ W = w') := fun W => by have := mod18 W k hk 4 (by omega); rwa [hk4] at this
  have HDS : Hid (doS e an k z = (e, (enterF e an z).2.2) ∧ doS e2 an2 k z = (e2, (enterF e2 an2 z).2.2)) := by show _ ∧ _; unfold doS; rw [hk4]; exact ⟨rfl, rfl⟩
  have HK := Lib.hid hk4
  have H := Lib.hid h
  have hcl := h.ck.lt
  clear h hk4
  have HE0 : Hid (Ep (fun b => F b ∧ ¬ (w.heap.size ≤ b ∧ b ≤ w.heap.size + 2)) d t c (((w.alloc (.cells (rcC e2 an2) 28)).alloc (.cells #[.int .i64 k, .int .i64 z] 35)).alloc (.cells (rcC 0 (fun _ => 0)) 28)) S 4 2 (wE 4 2 e) e an N) := H.out.less (by (repeat (first | with_reducible exact Below.refl _ _ | with_reducible refine bl_alloc ?_ _ | with_reducible refine bl_drew ?_ | with_reducible refine bl_drewN ?_ _ | with_reducible refine bl_bx ?_ _ | with_reducible exact BX.below _ | with_reducible refine bl_set ?_ (by first | (exact Nat.le_refl _) | (simp; done) | (simp; omega)) _ | assumption))) (fun b => w.heap.size ≤ b ∧ b ≤ w.heap.size + 2) (fun b hb => ⟨hb.1, by simp; omega⟩)
  have HO0 := Lib.hid (own3_new w e2 an2 k z)
  have HB0 : Hid (Ch F w (((w.alloc (.cells (rcC e2 an2) 28)).alloc (.cells #[.int .i64 k, .int .i64 z] 35)).alloc (.cells (rcC 0 (fun _ => 0)) 28))) := (((Ch.refl _ _).alloc _).alloc _).alloc _
  have HS0 : Hid ((((w.alloc (.cells (rcC e2 an2) 28)).alloc (.cells #[.int .i64 k, .int .i64 z] 35)).alloc (.cells (rcC 0 (fun _ => 0)) 28)).heap.size = w.heap.size + 3) := by show _ = _; simp
  obtain ⟨x, hx⟩ : ∃ x, (enterF e an z).1 = x := ⟨_, rfl⟩
  obtain ⟨y, hy⟩ : ∃ x, (enterF e an z).2.1 = x := ⟨_, rfl⟩
  obtain ⟨ax, hax⟩ : ∃ ax, (enterF e an z).2.2 = ax := ⟨_, rfl⟩
  obtain ⟨x2, hx2⟩ : ∃ x, (enterF e2 an2 z).1 = x := ⟨_, rfl⟩
  obtain ⟨y2, hy2⟩ : ∃ x, (enterF e2 an2 z).2.1 = x := ⟨_, rfl⟩
  obtain ⟨ax2, hax2⟩ : ∃ ax, (enterF e2 an2 z).2.2 = ax := ⟨_, rfl⟩
  have HXX : Hid (e2 = e → an2 = an → x2 = x ∧ y2 = y) := by show _ → _ → _; rintro rfl rfl; rw [← hx, ← hx2, ← hy, ← hy2]; exact ⟨rfl, rfl⟩
  have HEX := fun W S' hE => ckEnter_any (w := W) (S := S') (F := fun b => F b ∧ ¬ (w.heap.size ≤ b ∧ b ≤ w.heap.size + 2)) (d := d) (t := t) (c := c) (n := 4) (q := 2) (xs := wE 4 2 e) (e := e) (an := an) (N := N) hE z
  have HRX := fun W => refEnter_any W e2 an2 z
  rw [hx, hy, hax] at HEX
  rw [hx2, hy2, hax2] at HRX
  rw [hax, hax2] at HDS
  have HEX' := Lib.hid HEX
  have HRX' := Lib.hid HRX
  clear HEX HRX hx hax hx2 hax2 hy hy2
  unfold rcv
  unfold rcC at HE0 HO0 HB0 HS0
  go_enter Try.func11, Try.ntmps11
  go_wp2_with (first
    | (go_at_call 17; refine (HM.out _).mono ?_; rintro r w' ⟨rfl, rfl⟩)
    | (go_at_call 22; refine (HEX'.out _ _ HE0.out).mono ?_; rintro r w1 ⟨rfl, S1, hE1, hC1⟩; have hO1 := HO0.out.ch hC1 (fun b h1 h2 h3 => by rcases h3 with h3 | h3; exact h3.2 ⟨h1, h2⟩; omega); obtain ⟨r0, r1, r2, r3, r4, r5, r6, r7, r8, rl⟩ := hO1.1.rc; have s1 : w1.cell? ⟨w.heap.size + 1, 1, none⟩ = some (.int .i64 z) := hO1.2.1.cell 1; have sl := hO1.2.1.lt; have HO1 := Lib.hid hO1; have HE1 := Lib.hid hE1; have HC1 := Lib.hid hC1; clear hO1 hE1 hC1)
    | (go_at_call 32; refine (HRX'.out _).mono ?_; rintro r w2 ⟨rfl, hb2⟩; have hO2 := HO1.out.ch (Ch.of_below (S := fun _ => False) hb2) (fun _ _ _ h => h); obtain ⟨q0, q1, q2, q3, q4, q5, q6, q7, q8, ql⟩ := hO2.2.2.rc; obtain ⟨f0, f1, f2, f3, f4, f5, f6, f7, f8⟩ := hO2.2.2.rcf; have HO2 := Lib.hid hO2; have HB2 := Lib.hid hb2; clear hO2 hb2; unfold rcv))
  have hO3 := HO2.out.ch (Ch.of_below (S := fun _ => False) (bl_alloc (a := w2) (Below.refl _ _) (.cells #[.int .u64 e2, .int .u64 (ax2 0), .int .u64 (ax2 1), .int .u64 (ax2 2), .int .u64 (ax2 3), .int .u64 (ax2 4), .int .u64 (ax2 5), .int .u64 (ax2 6), .int .u64 (ax2 7)] 28))) (fun _ _ _ h => h)
  have hN3 : CB (w2.alloc (.cells #[.int .u64 e2, .int .u64 (ax2 0), .int .u64 (ax2 1), .int .u64 (ax2 2), .int .u64 (ax2 3), .int .u64 (ax2 4), .int .u64 (ax2 5), .int .u64 (ax2 6), .int .u64 (ax2 7)] 28)) w2.heap.size 28 (rcC e2 ax2) := CB.new w2 _ _
  have HB3 : Hid (Below w1.heap.size w1 (w2.alloc (.cells #[.int .u64 e2, .int .u64 (ax2 0), .int .u64 (ax2 1), .int .u64 (ax2 2), .int .u64 (ax2 3), .int .u64 (ax2 4), .int .u64 (ax2 5), .int .u64 (ax2 6), .int .u64 (ax2 7)] 28))) := bl_alloc HB2.out _
  clear q0 q1 q2 q3 q4 q5 q6 q7 q8 ql f0 f1 f2 f3 f4 f5 f6 f7 f8 r0 r1 r2 r3 r4 r5 r6 r7 r8 rl s1 sl
  have hg2 : ¬ w2.heap.size = w.heap.size + 1 + 1 := by have := HO2.out.2.2.lt; omega
  have hg3 : ¬ w.heap.size + 1 + 1 = w2.heap.size := by omega
  obtain ⟨gn, hgn⟩ : ∃ gn, w2.heap.size = gn := ⟨_, rfl⟩
  obtain ⟨W3, hW3⟩ : ∃ W3, w2.alloc (.cells #[.int .u64 e2, .int .u64 (ax2 0), .int .u64 (ax2 1), .int .u64 (ax2 2), .int .u64 (ax2 3), .int .u64 (ax2 4), .int .u64 (ax2 5), .int .u64 (ax2 6), .int .u64 (ax2 7)] 28) = W3 := ⟨_, rfl⟩
  rw [hgn] at hN3 hg2 hg3
  rw [hW3] at hO3 hN3 HB3
  rw [hgn, hW3]
  clear hW3 hgn
  obtain ⟨n0, n1, n2, n3, n4, n5, n6, n7, n8, nl⟩ := hN3.rc
  obtain ⟨q0, q1, q2, q3, q4, q5, q6, q7, q8, ql⟩ := hO3.2.2.rc
  obtain ⟨f0, f1, f2, f3, f4, f5, f6, f7, f8⟩ := hO3.2.2.rcf
  have HO3 := Lib.hid hO3
  clear hO3 hN3 HO2 HB2
  have hend : ∀ W4 bb, (e2 = e → an2 = an → bb = true) → Ch (At (w.heap.size + 1 + 1)) W3 W4 → DoPost F d t c e an N e2 an2 k z w (.returned (.tuple #[.pointer (some ⟨c, 0, none⟩), rcv e2 ax2, .bool bb])) W4 := by
    intro W4 bb hbb hC4
    refine ⟨(fun b => F b ∧ ¬ (w.heap.size ≤ b ∧ b ≤ w.heap.size + 2)), c, S1, bb, ?_, hbb, ?_, fun b hb => hb.1, .inl rfl, fun _ => rfl, ?_⟩
    · rw [HDS.out.2]
    · rw [HDS.out.1]
      exact ((HE1.out.below HB3.out).set hC4 (fun b hb hF h => by
        have hb' : b = w.heap.size + 1 + 1 := h
        rcases hF with hf | hf
        · exact hf.2 ⟨by omega, by omega⟩
        · omega)).up (by omega)
    · refine ((((HB0.out.mono (fun b hb _ => .inl hb)).trans HC1.out (fun b hb _ => ?_)).trans (Ch.of_below (S := fun _ => False) HB3.out) (fun b hb => hb.elim)).trans hC4 (fun b hb hlt => ?_))
      · rcases hb with h | h
        · exact .inl h.1
        · exact .inr h
      · have hb' : b = w.heap.size + 1 + 1 := hb
        omega
  have HEND := Lib.hid hend
  clear hend
  by_cases hxx : x = x2
  · have hg : (x == x2) = true := by simpa using hxx
    clear hxx
    go_region
    go_wp2
    refine bodyPost_ret (v := .tuple #[.pointer (some ⟨c, 0, none⟩), rcv e2 ax2, .bool (y == y2)]) (by simp [results, Try.results11, go_sem, rcv, q0, q1, q2, q3, q4, q5, q6, q7, q8]) rfl ?_
    exact HEND.out _ _ (fun h1 h2 => by rw [(HXX.out h1 h2).2]; simp) (by repeat (first | with_reducible exact Ch.refl _ _ | with_reducible refine Ch.drew ?_ | with_reducible refine Ch.set1 ?_ _ _))
  · have hg : (x == x2) = false := by simpa using hxx
    go_region
    go_wp2
    refine bodyPost_ret (v := .tuple #[.pointer (some ⟨c, 0, none⟩), rcv e2 ax2, .bool false]) (by simp [results, Try.results11, go_sem, rcv, q0, q1, q2, q3, q4, q5, q6, q7, q8]) rfl ?_
    exact HEND.out _ _ (fun h1 h2 => absurd (HXX.out h1 h2).1.symm hxx) (by repeat (first | with_reducible exact Ch.refl _ _ | with_reducible refine Ch.drew ?_ | with_reducible refine Ch.set1 ?_ _ _))
set_option maxRecDepth 100000 in
set_option maxHeartbeats 4000000 in
theorem do_advance (h : Ep F d t c w S 4 2 (wE 4 2 e) e an N) (e2 : Int) (an2 : Nat → Int) (k z : Int) (hk : -9223372036854775808 ≤ k ∧ k < 9223372036854775808) (hk4 : k % 4 = 2) (he1 : e < 1000000000) (he2 : 0 ≤ e2 ∧ e2 < 1000000000) (hN : N + 3 < 1000000) :
    Calls Try.prog 11 #[.pointer (some ⟨d, 0, none⟩), .pointer (some ⟨c, 0, none⟩), rcv e2 an2, .agg #[.int .i64 k, .int .i64 z]] w (DoPost F d t c e an N e2 an2 k z w) := by
  have HM : Hid (∀ W, Calls Try.prog 17 #[.int .i64 k, .int .i64 4] W fun r w' => r = .returned (.int .i64 2) ∧ W = w') := fun W => by have := mod18 W k hk 4 (by omega); rwa [hk4] at this
  have HDS : Hid (doS e an k z = ((advF e an z).2.2, an) ∧ doS e2 an2 k z = ((advF e2 an2 z).2.2, an2)) := by show _ ∧ _; unfold doS; rw [hk4]; exact ⟨rfl, rfl⟩
  have HK := Lib.hid hk4
  have H := Lib.hid h
  have hcl := h.ck.lt
  clear h hk4
  have HE0 : Hid (Ep (fun b => F b ∧ ¬ (w.heap.size ≤ b ∧ b ≤ w.heap.size + 2)) d t c (((w.alloc (.cells (rcC e2 an2) 28)).alloc (.cells #[.int .i64 k, .int .i64 z] 35)).alloc (.cells (rcC 0 (fun _ => 0)) 28)) S 4 2 (wE 4 2 e) e an N) := H.out.less (by (repeat (first | with_reducible exact Below.refl _ _ | with_reducible refine bl_alloc ?_ _ | with_reducible refine bl_drew ?_ | with_reducible refine bl_drewN ?_ _ | with_reducible refine bl_bx ?_ _ | with_reducible exact BX.below _ | with_reducible refine bl_set ?_ (by first | (exact Nat.le_refl _) | (simp; done) | (simp; omega)) _ | assumption))) (fun b => w.heap.size ≤ b ∧ b ≤ w.heap.size + 2) (fun b hb => ⟨hb.1, by simp; omega⟩)
  have HO0 := Lib.hid (own3_new w e2 an2 k z)
  have HB0 : Hid (Ch F w (((w.alloc (.cells (rcC e2 an2) 28)).alloc (.cells #[.int .i64 k, .int .i64 z] 35)).alloc (.cells (rcC 0 (fun _ => 0)) 28))) := (((Ch.refl _ _).alloc _).alloc _).alloc _
  have HS0 : Hid ((((w.alloc (.cells (rcC e2 an2) 28)).alloc (.cells #[.int .i64 k, .int .i64 z] 35)).alloc (.cells (rcC 0 (fun _ => 0)) 28)).heap.size = w.heap.size + 3) := by show _ = _; simp
  obtain ⟨x, hx⟩ : ∃ x, (advF e an z).1 = x := ⟨_, rfl⟩
  obtain ⟨y, hy⟩ : ∃ x, (advF e an z).2.1 = x := ⟨_, rfl⟩
  obtain ⟨ax, hax⟩ : ∃ ax, (advF e an z).2.2 = ax := ⟨_, rfl⟩
  obtain ⟨x2, hx2⟩ : ∃ x, (advF e2 an2 z).1 = x := ⟨_, rfl⟩
  obtain ⟨y2, hy2⟩ : ∃ x, (advF e2 an2 z).2.1 = x := ⟨_, rfl⟩
  obtain ⟨ax2, hax2⟩ : ∃ ax, (advF e2 an2 z).2.2 = ax := ⟨_, rfl⟩
  have HXX : Hid (e2 = e → an2 = an → x2 = x ∧ y2 = y) := by show _ → _ → _; rintro rfl rfl; rw [← hx, ← hx2, ← hy, ← hy2]; exact ⟨rfl, rfl⟩
  have HEX := fun W S' hE => ckAdvance_any (w := W) (S := S') (F := fun b => F b ∧ ¬ (w.heap.size ≤ b ∧ b ≤ w.heap.size + 2)) (d := d) (t := t) (c := c) (n := 4) (q := 2) (e := e) (an := an) (N := N) hE (by omega) hN z
  have HRX := fun W => refAdvance_any W e2 an2 he2 z
  rw [hx, hy, hax] at HEX
  rw [hx2, hy2, hax2] at HRX
  rw [hax, hax2] at HDS
  have HEX' := Lib.hid HEX
  have HRX' := Lib.hid HRX
  clear HEX HRX hx hax hx2 hax2 hy hy2
  unfold rcv
  unfold rcC at HE0 HO0 HB0 HS0
  go_enter Try.func11, Try.ntmps11
  go_wp2_with (first
    | (go_at_call 17; refine (HM.out _).mono ?_; rintro r w' ⟨rfl, rfl⟩)
    | (go_at_call 15; refine (HEX'.out _ _ HE0.out).mono ?_; rintro r w1 ⟨rfl, S1, hE1, hC1⟩; have hO1 := HO0.out.ch hC1 (fun b h1 h2 h3 => by rcases h3 with h3 | h3; exact h3.2 ⟨h1, h2⟩; omega); obtain ⟨r0, r1, r2, r3, r4, r5, r6, r7, r8, rl⟩ := hO1.1.rc; have s1 : w1.cell? ⟨w.heap.size + 1, 1, none⟩ = some (.int .i64 z) := hO1.2.1.cell 1; have sl := hO1.2.1.lt; have HO1 := Lib.hid hO1; have HE1 := Lib.hid hE1; have HC1 := Lib.hid hC1; clear hO1 hE1 hC1)
    | (go_at_call 34; refine (HRX'.out _).mono ?_; rintro r w2 ⟨rfl, hb2⟩; have hO2 := HO1.out.ch (Ch.of_below (S := fun _ => False) hb2) (fun _ _ _ h => h); obtain ⟨q0, q1, q2, q3, q4, q5, q6, q7, q8, ql⟩ := hO2.2.2.rc; obtain ⟨f0, f1, f2, f3, f4, f5, f6, f7, f8⟩ := hO2.2.2.rcf; have HO2 := Lib.hid hO2; have HB2 := Lib.hid hb2; clear hO2 hb2; unfold rcv))
  have hO3 := HO2.out.ch (Ch.of_below (S := fun _ => False) (bl_alloc (a := w2) (Below.refl _ _) (.cells #[.int .u64 ax2, .int .u64 (an2 0), .int .u64 (an2 1), .int .u64 (an2 2), .int .u64 (an2 3), .int .u64 (an2 4), .int .u64 (an2 5), .int .u64 (an2 6), .int .u64 (an2 7)] 28))) (fun _ _ _ h => h)
  have hN3 : CB (w2.alloc (.cells #[.int .u64 ax2, .int .u64 (an2 0), .int .u64 (an2 1), .int .u64 (an2 2), .int .u64 (an2 3), .int .u64 (an2 4), .int .u64 (an2 5), .int .u64 (an2 6), .int .u64 (an2 7)] 28)) w2.heap.size 28 (rcC ax2 an2) := CB.new w2 _ _
  have HB3 : Hid (Below w1.heap.size w1 (w2.alloc (.cells #[.int .u64 ax2, .int .u64 (an2 0), .int .u64 (an2 1), .int .u64 (an2 2), .int .u64 (an2 3), .int .u64 (an2 4), .int .u64 (an2 5), .int .u64 (an2 6), .int .u64 (an2 7)] 28))) := bl_alloc HB2.out _
  clear q0 q1 q2 q3 q4 q5 q6 q7 q8 ql f0 f1 f2 f3 f4 f5 f6 f7 f8 r0 r1 r2 r3 r4 r5 r6 r7 r8 rl s1 sl
  have hg2 : ¬ w2.heap.size = w.heap.size + 1 + 1 := by have := HO2.out.2.2.lt; omega
  have hg3 : ¬ w.heap.size + 1 + 1 = w2.heap.size := by omega
  obtain ⟨gn, hgn⟩ : ∃ gn, w2.heap.size = gn := ⟨_, rfl⟩
  obtain ⟨W3, hW3⟩ : ∃ W3, w2.alloc (.cells #[.int .u64 ax2, .int .u64 (an2 0), .int .u64 (an2 1), .int .u64 (an2 2), .int .u64 (an2 3), .int .u64 (an2 4), .int .u64 (an2 5), .int .u64 (an2 6), .int .u64 (an2 7)] 28) = W3 := ⟨_, rfl⟩
  rw [hgn] at hN3 hg2 hg3
  rw [hW3] at hO3 hN3 HB3
  rw [hgn, hW3]
  clear hW3 hgn
  obtain ⟨n0, n1, n2, n3, n4, n5, n6, n7, n8, nl⟩ := hN3.rc
  obtain ⟨q0, q1, q2, q3, q4, q5, q6, q7, q8, ql⟩ := hO3.2.2.rc
  obtain ⟨f0, f1, f2, f3, f4, f5, f6, f7, f8⟩ := hO3.2.2.rcf
  have HO3 := Lib.hid hO3
  clear hO3 hN3 HO2 HB2
  have hend : ∀ W4 bb, (e2 = e → an2 = an → bb = true) → Ch (At (w.heap.size + 1 + 1)) W3 W4 → DoPost F d t c e an N e2 an2 k z w (.returned (.tuple #[.pointer (some ⟨c, 0, none⟩), rcv ax2 an2, .bool bb])) W4 := by
    intro W4 bb hbb hC4
    refine ⟨(fun b => F b ∧ ¬ (w.heap.size ≤ b ∧ b ≤ w.heap.size + 2)), c, S1, bb, ?_, hbb, ?_, fun b hb => hb.1, .inl rfl, fun _ => rfl, ?_⟩
    · rw [HDS.out.2]
    · rw [HDS.out.1]
      exact ((HE1.out.below HB3.out).set hC4 (fun b hb hF h => by
        have hb' : b = w.heap.size + 1 + 1 := h
        rcases hF with hf | hf
        · exact hf.2 ⟨by omega, by omega⟩
        · omega))
    · refine ((((HB0.out.mono (fun b hb _ => .inl hb)).trans HC1.out (fun b hb _ => ?_)).trans (Ch.of_below (S := fun _ => False) HB3.out) (fun b hb => hb.elim)).trans hC4 (fun b hb hlt => ?_))
      · rcases hb with h | h
        · exact .inl h.1
        · exact .inr h
      · have hb' : b = w.heap.size + 1 + 1 := hb
        omega
  have HEND := Lib.hid hend
  clear hend
  by_cases hxx : x = x2
  · have hg : (x == x2) = true := by simpa using hxx
    clear hxx
    go_region
    go_wp2
    refine bodyPost_ret (v := .tuple #[.pointer (some ⟨c, 0, none⟩), rcv ax2 an2, .bool (y == y2)]) (by simp [results, Try.results11, go_sem, rcv, q0, q1, q2, q3, q4, q5, q6, q7, q8]) rfl ?_
    exact HEND.out _ _ (fun h1 h2 => by rw [(HXX.out h1 h2).2]; simp) (by repeat (first | with_reducible exact Ch.refl _ _ | with_reducible refine Ch.drew ?_ | with_reducible refine Ch.set1 ?_ _ _))
  · have hg : (x == x2) = false := by simpa using hxx
    go_region
    go_wp2
    refine bodyPost_ret (v := .tuple #[.pointer (some ⟨c, 0, none⟩), rcv ax2 an2, .bool false]) (by simp [results, Try.results11, go_sem, rcv, q0, q1, q2, q3, q4, q5, q6, q7, q8]) rfl ?_
    exact HEND.out _ _ (fun h1 h2 => absurd (HXX.out h1 h2).1.symm hxx) (by repeat (first | with_reducible exact Ch.refl _ _ | with_reducible refine Ch.drew ?_ | with_reducible refine Ch.set1 ?_ _ _))
set_option maxRecDepth 100000 in
set_option maxHeartbeats 4000000 in
theorem do_open (h : Ep F d t c w S 4 2 (wE 4 2 e) e an N) (e2 : Int) (an2 : Nat → Int) (k z : Int) (hk : -9223372036854775808 ≤ k ∧ k < 9223372036854775808) (hk4 : k % 4 = 3) (he1 : e < 1000000000) (he2 : 0 ≤ e2 ∧ e2 < 1000000000) (hN : N + 3 < 1000000) :
    Calls Try.prog 11 #[.pointer (some ⟨d, 0, none⟩), .pointer (some ⟨c, 0, none⟩), rcv e2 an2, .agg #[.int .i64 k, .int .i64 z]] w (DoPost F d t c e an N e2 an2 k z w) := by
  have HM : Hid (∀ W, Calls Try.prog 17 #[.int .i64 k, .int .i64 4] W fun r w' => r = .returned (.int .i64 3) ∧ W = w') := fun W => by have := mod18 W k hk 4 (by omega); rwa [hk4] at this
  have HDS : Hid (doS e an k z = (e + 1, fun _ => 0) ∧ doS e2 an2 k z = (e2 + 1, fun _ => 0)) := by show _ ∧ _; unfold doS; rw [hk4]; exact ⟨rfl, rfl⟩
  have HK := Lib.hid hk4
  have H := Lib.hid h
  have hcl := h.ck.lt
  have hee := h.he
  clear h hk4
  have HE0 : Hid (Ep (fun b => F b ∧ ¬ (w.heap.size ≤ b ∧ b ≤ w.heap.size + 2)) d t c (((w.alloc (.cells (rcC e2 an2) 28)).alloc (.cells #[.int .i64 k, .int .i64 z] 35)).alloc (.cells (rcC 0 (fun _ => 0)) 28)) S 4 2 (wE 4 2 e) e an N) := H.out.less (by (repeat (first | with_reducible exact Below.refl _ _ | with_reducible refine bl_alloc ?_ _ | with_reducible refine bl_drew ?_ | with_reducible refine bl_drewN ?_ _ | with_reducible refine bl_bx ?_ _ | with_reducible exact BX.below _ | with_reducible refine bl_set ?_ (by first | (exact Nat.le_refl _) | (simp; done) | (simp; omega)) _ | assumption))) (fun b => w.heap.size ≤ b ∧ b ≤ w.heap.size + 2) (fun b hb => ⟨hb.1, by simp; omega⟩)
  have HO0 := Lib.hid (own3_new w e2 an2 k z)
  have HB0 : Hid (Ch F w (((w.alloc (.cells (rcC e2 an2) 28)).alloc (.cells #[.int .i64 k, .int .i64 z] 35)).alloc (.cells (rcC 0 (fun _ => 0)) 28))) := (((Ch.refl _ _).alloc _).alloc _).alloc _
  have HS0 : Hid ((((w.alloc (.cells (rcC e2 an2) 28)).alloc (.cells #[.int .i64 k, .int .i64 z] 35)).alloc (.cells (rcC 0 (fun _ => 0)) 28)).heap.size = w.heap.size + 3) := by show _ = _; simp
  have HOP := Lib.hid (ckOpen (q := 2) (e := e) HE0.out.dv HE0.out.cl (by omega) (by omega) (wE_length 4 2 e) (wE_at 4 2 e (by omega)) (by omega) (wE_zero 4 2 e (by omega)) hN)
  have HRO := Lib.hid (fun W => refOpen W e2 an2 he2)
  unfold rcv
  unfold rcC at HE0 HO0 HB0 HS0 HOP
  unfold rcv at HRO
  go_enter Try.func11, Try.ntmps11
  go_wp2_with (first
    | (go_at_call 17; refine (HM.out _).mono ?_; rintro r w' ⟨rfl, rfl⟩)
    | (go_at_call 24; refine HOP.out.mono ?_; rintro r w1 ⟨c1, S1, rfl, hE1, hc1, hC1⟩; rw [wE_set] at hE1; have hO1 := HO0.out.ch hC1 (fun b h1 h2 h3 => h3.2 ⟨h1, h2⟩); obtain ⟨r0, r1, r2, r3, r4, r5, r6, r7, r8, rl⟩ := hO1.1.rc; have HO1 := Lib.hid hO1; have HE1 := Lib.hid hE1; have HC1 := Lib.hid hC1; clear hO1 hE1 hC1)
    | (go_at_call 29; refine (HRO.out _).mono ?_; rintro r w2 ⟨rfl, hb2⟩; have hO2 := HO1.out.ch (Ch.of_below (S := fun _ => False) hb2) (fun _ _ _ h => h); obtain ⟨q0, q1, q2, q3, q4, q5, q6, q7, q8, ql⟩ := hO2.2.2.rc; obtain ⟨f0, f1, f2, f3, f4, f5, f6, f7, f8⟩ := hO2.2.2.rcf; have HO2 := Lib.hid hO2; have HB2 := Lib.hid hb2; clear hO2 hb2))
  refine bodyPost_ret (v := .tuple #[.pointer (some ⟨c1, 0, none⟩), rcv (e2 + 1) (fun _ => 0), .bool true]) (by simp [results, Try.results11, go_sem, rcv, q0, q1, q2, q3, q4, q5, q6, q7, q8]) rfl ?_
  have hc1' : w.heap.size + 3 ≤ c1 := by rw [HS0.out] at hc1; exact hc1
  have hend : ∀ W4, Ch (At (w.heap.size + 1 + 1)) w2 W4 → DoPost F d t c e an N e2 an2 k z w (.returned (.tuple #[.pointer (some ⟨c1, 0, none⟩), rcv (e2 + 1) (fun _ => 0), .bool true])) W4 := by
    intro W4 hC4
    refine ⟨(fun b => (F b ∧ ¬ (w.heap.size ≤ b ∧ b ≤ w.heap.size + 2)) ∧ b ≠ c1), c1, S1, true, ?_, fun _ _ => rfl, ?_, fun b hb => hb.1.1, .inr (by omega), fun h3 => absurd HK.out h3, ?_⟩
    · rw [HDS.out.2]
    · rw [HDS.out.1]
      exact (HE1.out.below HB2.out).set hC4 (fun b hb hF h => by
        have hb' : b = w.heap.size + 1 + 1 := h
        rcases hF with hf | hf
        · exact hf.1.2 ⟨by omega, by omega⟩
        · omega)
    · refine ((((HB0.out.mono (fun b hb _ => .inl hb)).trans HC1.out (fun b hb _ => .inl hb.1)).trans (Ch.of_below (S := fun _ => False) HB2.out) (fun b hb => hb.elim)).trans hC4 (fun b hb hlt => ?_))
      have hb' : b = w.heap.size + 1 + 1 := hb
      omega
  exact hend _ (by repeat (first | with_reducible exact Ch.refl _ _ | with_reducible refine Ch.drew ?_ | with_reducible refine Ch.set1 ?_ _ _))
/-- do, whatever the call. -/
theorem do18 (h : Ep F d t c w S 4 2 (wE 4 2 e) e an N) (e2 : Int) (an2 : Nat → Int) (k z : Int) (hk : -9223372036854775808 ≤ k ∧ k < 9223372036854775808) (he1 : e < 1000000000) (he2 : 0 ≤ e2 ∧ e2 < 1000000000) (hN : N + 3 < 1000000) :
    Calls Try.prog 11 #[.pointer (some ⟨d, 0, none⟩), .pointer (some ⟨c, 0, none⟩), rcv e2 an2, .agg #[.int .i64 k, .int .i64 z]] w (DoPost F d t c e an N e2 an2 k z w) := by
  have : k % 4 = 0 ∨ k % 4 = 1 ∨ k % 4 = 2 ∨ k % 4 = 3 := by omega
  rcases this with h4 | h4 | h4 | h4
  · exact do_enter h e2 an2 k z hk h4
  · exact do_exit h e2 an2 k z hk h4
  · exact do_advance h e2 an2 k z hk h4 he1 he2 hN
  · exact do_open h e2 an2 k z hk h4 he1 he2 hN
end
end Go.Proofs.Ytljolgcmkejlnaa
