/- An Enter in progress beside a clock: what is kept from step to step. -/
import Derived.Test.YtljolgcmkejlnaaEpOp
import Derived.Test.YtljolgcmkejlnaaEpPlay
namespace Go.Proofs.Ytljolgcmkejlnaa
open Go.RowKit
set_option linter.unusedVariables false

/-- A clock, and an Enter of thread i beside it; b: it has ended. -/
def OpInv (w : World) (d : Nat) (t : Nat → Nat) (c o i : Nat) (b : Bool) (e : Int) (N : Nat) (wr : World) : Prop :=
  ∃ F S an, Ep F d t c wr S 4 2 (wE 4 2 e) e an N ∧ Opb wr o c i b (if b then e else 0) ∧ (b = false → an i = 0) ∧ (b = true → an i = e) ∧ ¬ F o ∧ o ≠ c ∧ (∀ b, F b → w.heap.size ≤ b) ∧ w.heap.size ≤ c ∧ w.heap.size ≤ o ∧ Below w.heap.size w wr
section
variable {w : World} {d : Nat} {t : Nat → Nat} {c o i : Nat} {b : Bool} {e : Int} {N : Nat} {wr : World}
theorem opInv_new {F : Nat → Prop} {S : DevS} {an : Nat → Int} {w1 wr : World} (hE : Ep F d t c w1 S 4 2 (wE 4 2 e) e an N) (ha : an i = 0) (hF : ∀ b, F b → w.heap.size ≤ b) (hc : w.heap.size ≤ c) (h1 : Below w.heap.size w w1) (hb : Below w1.heap.size w1 wr) :
    OpInv w d t c wr.heap.size i false e N (wr.alloc (.cells (opC c i false 0) 78)) := by
  have hcl := hE.ck.lt
  have hs := hb.size
  have hs1 := h1.size
  refine ⟨_, S, an, hE.less (bl_alloc hb _) (fun b => b = wr.heap.size) (fun b hb => ⟨by omega, by rw [hb]; simp⟩), CB.new _ _ _, fun _ => ha, (fun h => by cases h), fun h => h.2 rfl, by omega, fun b hb => hF b hb.1, hc, by omega, (h1.trans (hb.mono hs1)).alloc (by omega) _⟩
theorem opInv_step (h : OpInv w d t c o i false e N wr) (hi : i < 8) : Calls Try.prog 14 #[.pointer (some ⟨o, 0, none⟩)] wr fun r w' => r = .returned (.bool true) ∧ OpInv w d t c o i true e N w' := by
  obtain ⟨F, S, an, hE, hO, ha, _, hoF, hoc, hF, hc, ho, hB⟩ := h
  refine (opStep_first hE o i hi (ha rfl) hO hoF hoc).mono ?_
  rintro r w' ⟨rfl, hE2, hO2, hC2⟩
  refine ⟨rfl, F, S, _, hE2, hO2, (fun h => by cases h), fun _ => by simp [setAn], hoF, hoc, hF, hc, ho, bl_ch hB hC2 (fun b hb => by rcases hb with h | h <;> omega)⟩
theorem opInv_step_done (h : OpInv w d t c o i true e N wr) : Calls Try.prog 14 #[.pointer (some ⟨o, 0, none⟩)] wr fun r w' => r = .returned (.bool true) ∧ wr = w' := by
  obtain ⟨F, S, an, hE, hO, _⟩ := h
  exact opStep_done o i _ hO
/-- What Advance leaves beside an Enter that has not begun. -/
def AdvInv (w : World) (d : Nat) (t : Nat → Nat) (c o i : Nat) (e : Int) (N : Nat) (r : Ending) (w' : World) : Prop :=
  ∃ x y e', r = .returned (.tuple #[.int .u64 x, .int .i64 y]) ∧ (y = 0 ∨ y = 7) ∧ OpInv w d t c o i false e' (N + 3) w' ∧ e ≤ e' ∧ e' ≤ e + 1
theorem opInv_adv (h : OpInv w d t c o i false e N wr) (he : e < 2147483647) (hN : N + 3 < 1000000) (z : Int) (hz : 0 ≤ z ∧ z < 8) : Calls Try.prog 15 #[.pointer (some ⟨c, 0, none⟩), .int .i64 z] wr (AdvInv w d t c o i e N) := by
  obtain ⟨F, S, an, hE, hO, ha, hb, hoF, hoc, hF, hc, ho, hB⟩ := h
  refine (ckAdvance_any hE he hN z).mono ?_
  rintro r w' ⟨rfl, S2, hE2, hC2⟩
  have hadv : ((advF e an z).2.1 = 0 ∨ (advF e an z).2.1 = 7) ∧ e ≤ (advF e an z).2.2 ∧ (advF e an z).2.2 ≤ e + 1 := by
    unfold advF
    rw [if_neg (by omega)]
    split
    · exact ⟨.inl rfl, by show e ≤ e + 1; omega, by show e + 1 ≤ e + 1; omega⟩
    · exact ⟨.inr rfl, by show e ≤ e; omega, by show e ≤ e + 1; omega⟩
  refine ⟨_, _, _, rfl, hadv.1, ⟨F, S2, an, hE2, ?_, ha, (fun h => by cases h), hoF, hoc, hF, hc, ho, ?_⟩, hadv.2⟩
  · exact CB.ch hO hC2 (fun h => by rcases h with h | h; exact hoF h; exact hoc h)
  · exact bl_ch hB hC2 (fun b hb => by
      rcases hb with h | h
      · exact hF b h
      · omega)
theorem opInv_now (h : OpInv w d t c o i b e N wr) : Calls Try.prog 16 #[.pointer (some ⟨c, 0, none⟩)] wr fun r w' => r = .returned (.int .u64 e) ∧ wr = w' := by
  obtain ⟨F, S, an, hE, _⟩ := h
  exact ckNow hE
theorem opInv_below (h : OpInv w d t c o i b e N wr) : Below w.heap.size w wr := by
  obtain ⟨F, S, an, _, _, _, _, _, _, _, _, _, hB⟩ := h
  exact hB
theorem opInv_keep {w' : World} (h : OpInv w d t c o i b e N wr) (hb : Below wr.heap.size wr w') : OpInv w d t c o i b e N w' := by
  obtain ⟨F, S, an, hE, hO, h1, h2, hoF, hoc, hF, hc, ho, hB⟩ := h
  exact ⟨F, S, an, hE.below hb, CB.below hO hb, h1, h2, hoF, hoc, hF, hc, ho, hB.trans (hb.mono hB.size)⟩
end
/-- A clock of which thread i announces r. -/
def HoInv (w : World) (d : Nat) (t : Nat → Nat) (c : Nat) (r : Int) (i : Nat) (e : Int) (an : Nat → Int) (N : Nat) (wr : World) : Prop :=
  ∃ F S, Ep F d t c wr S 4 2 (wE 4 2 e) e an N ∧ an i = r ∧ 1 ≤ r ∧ r ≤ e ∧ (∀ b, F b → w.heap.size ≤ b) ∧ w.heap.size ≤ c ∧ Below w.heap.size w wr
theorem opInv_ho {w : World} {d : Nat} {t : Nat → Nat} {c o i : Nat} {e : Int} {N : Nat} {wr : World} (h : OpInv w d t c o i true e N wr) : ∃ an, HoInv w d t c e i e an N wr := by
  obtain ⟨F, S, an, hE, hO, h1, h2, hoF, hoc, hF, hc, ho, hB⟩ := h
  exact ⟨an, F, S, hE, h2 rfl, hE.he.1, Int.le_refl _, hF, hc, hB⟩
theorem doS_keep {e : Int} {an : Nat → Int} {k z : Int} (i : Nat) (hk : k % 4 ≠ 3) (hz : z ≠ (i : Int)) : (doS e an k z).2 i = an i ∧ e ≤ (doS e an k z).1 ∧ (doS e an k z).1 ≤ e + 1 := by
  refine ⟨?_, doS_range⟩
  unfold doS
  split
  · unfold enterF
    split
    · rfl
    · split
      · simp only [setAn]; rw [if_neg (by omega)]
      · rfl
  · split
    · unfold exitF
      split
      · rfl
      · split
        · rfl
        · simp only [setAn]; rw [if_neg (by omega)]
    · split
      · rfl
      · omega
theorem safeB_held {e : Int} {an : Nat → Int} {r : Int} {i : Nat} (hi : i < 8) (ha : an i = r) (hr : 1 ≤ r) : safeB e an r = false := by
  unfold safeB
  rw [range_all_false hi (p := holdB an r)]
  · simp
  · simp only [holdB, ha, decide_eq_true (Int.le_refl r), Bool.and_true, Bool.not_eq_false']
    simp; omega
section
variable {w : World} {d : Nat} {t : Nat → Nat} {c o i : Nat} {b : Bool} {e : Int} {N : Nat} {wr : World}
theorem opInv_epoch_not (h : OpInv w d t c o i false e N wr) : Calls Try.prog 20 #[.pointer (some ⟨o, 0, none⟩)] wr fun r w' => r = .returned (.tuple #[.int .u64 0, .int .i64 8]) ∧ wr = w' := by
  obtain ⟨F, S, an, hE, hO, _⟩ := h
  exact opEpoch_not o i _ hO
theorem opInv_epoch (h : OpInv w d t c o i true e N wr) : Calls Try.prog 20 #[.pointer (some ⟨o, 0, none⟩)] wr fun r w' => r = .returned (.tuple #[.int .u64 e, .int .i64 0]) ∧ Below wr.heap.size wr w' := by
  obtain ⟨F, S, an, hE, hO, _⟩ := h
  exact opEpoch_done o i _ hO
theorem opInv_ann (h : OpInv w d t c o i true e N wr) (hi : i < 8) : Calls Try.prog 21 #[.pointer (some ⟨c, 0, none⟩), .int .i64 (i : Int)] wr fun r w' => r = .returned (.tuple #[.int .u64 e, .bool true]) ∧ wr = w' := by
  obtain ⟨F, S, an, hE, hO, h1, h2, _⟩ := h
  have h3 := ckAnnounced hE i hi
  have h4 := hE.he
  rw [h2 rfl, show (e != 0) = true by simp; omega] at h3
  exact h3
theorem opInv_safe (h : OpInv w d t c o i true e N wr) (hi : i < 8) : Calls Try.prog 18 #[.pointer (some ⟨c, 0, none⟩), .int .u64 e] wr fun r w' => r = .returned (.bool false) ∧ wr = w' := by
  obtain ⟨F, S, an, hE, hO, h1, h2, _⟩ := h
  have := ckSafe hE e
  rwa [safeB_held hi (h2 rfl) hE.he.1] at this
end
end Go.Proofs.Ytljolgcmkejlnaa
