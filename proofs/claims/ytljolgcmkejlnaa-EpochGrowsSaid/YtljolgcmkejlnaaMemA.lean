/- A device with a footprint; programs of instructions and their execution. -/
import Derived.Test.YtljolgcmkejlnaaDevH
import Derived.Test.YtljolgcmkejlnaaDevL
namespace Go.Proofs.Ytljolgcmkejlnaa
open Go.RowKit
set_option linter.unusedVariables false

/-- A device whose blocks are in F; new blocks are in F. -/
def DV (F : Nat → Prop) (d : Nat) (t : Nat → Nat) (w : World) (S : DevS) : Prop := (∀ b, w.heap.size ≤ b → F b) ∧ ∃ L, L.t = t ∧ Dev w d L S ∧ ∀ b, Fp L b → F b

section
variable {F G : Nat → Prop} {d : Nat} {t : Nat → Nat} {w w' : World} {S : DevS}
theorem DV.mono (h : DV F d t w S) (hG : ∀ b, F b → G b) : DV G d t w S := by
  obtain ⟨h1, L, h2, h3, h4⟩ := h
  exact ⟨fun b hb => hG b (h1 b hb), L, h2, h3, fun b hb => hG b (h4 b hb)⟩
theorem DV.ch {T : Nat → Prop} (h : DV F d t w S) (hc : Ch T w w') (hT : ∀ b, b < w.heap.size → F b → ¬ T b) : DV F d t w' S := by
  obtain ⟨h1, L, h2, h3, h4⟩ := h
  exact ⟨fun b hb => h1 b (Nat.le_trans hc.size hb), L, h2, h3.ch hc (fun b hb => hT b (h3.fr b hb) (h4 b hb)), h4⟩
theorem DV.below (h : DV F d t w S) (hb : Below w.heap.size w w') : DV F d t w' S := h.ch (T := fun _ => False) (Ch.of_below hb) (fun _ _ _ hf => hf)
theorem DV.bx (h : DV F d t w S) (x : BX w) : DV F d t x.w S := h.below x.below
theorem DV.alloc (h : DV F d t w S) (o : Obj) : DV F d t (w.alloc o) S := h.below (bl_alloc (Below.refl _ _) _)
theorem DV.drewN (h : DV F d t w S) (n : Nat) : DV F d t (w.drewN n) S := h.below (below_drewN (Below.refl _ _) n)
/-- Blocks that were made since belong to others. -/
theorem DV.less (h : DV F d t w S) (hb : Below w.heap.size w w') (X : Nat → Prop) (hX : ∀ b, X b → w.heap.size ≤ b ∧ b < w'.heap.size) : DV (fun b => F b ∧ ¬ X b) d t w' S := by
  obtain ⟨h1, L, h2, h3, h4⟩ := h
  exact ⟨fun b hb' => ⟨h1 b (Nat.le_trans hb.size hb'), fun hx => by have := hX b hx; omega⟩, L, h2, h3.below hb, fun b hb' => ⟨h4 b hb', fun hx => by have := hX b hx; have := h3.fr b hb'; omega⟩⟩
end

@[go_sem] theorem m_pThread_Store (w : World) (v : Value) : (method 261 61 v "Store").run Try.prog w = .ok (27, v) w := by kernel_rfl
@[go_sem] theorem m_pThread_Flush (w : World) (v : Value) : (method 261 61 v "Flush").run Try.prog w = .ok (102, v) w := by kernel_rfl
@[go_sem] theorem m_pThread_Fence (w : World) (v : Value) : (method 261 61 v "Fence").run Try.prog w = .ok (101, v) w := by kernel_rfl

/-- An instruction: its kind, offset and value. -/
abbrev Ins := Int × Int × Int
def pcells (ps : List Ins) : List Value := ps.flatMap fun p => [.int .u8 p.1, .int .u64 p.2.1, .int .u64 p.2.2]
def DevS.exec1 (S : DevS) (i : Nat) (p : Ins) : DevS := if p.1 = 1 then S.store i p.2.1 p.2.2 else if p.1 = 2 then S.flush i p.2.1 else S.fence i
def DevS.runP (S : DevS) (i : Nat) (ps : List Ins) : DevS := ps.foldl (fun S p => S.exec1 i p) S
theorem runP_snoc (S : DevS) (i : Nat) (ps : List Ins) (p : Ins) : S.runP i (ps ++ [p]) = (S.runP i ps).exec1 i p := by simp [DevS.runP]
theorem Good.exec1 {S : DevS} {N : Nat} (h : Good S N) {i : Nat} (hi : i < 8) (p : Ins) (hp : 0 ≤ p.2.1) (hN : N < 1000000000) : Good (S.exec1 i p) (N + 1) := by
  unfold DevS.exec1
  split
  · exact h.store i _ _ hp
  · split
    · exact h.flush i _ hp hN
    · exact (h.fence hi hN).mono (Nat.le_succ _)
theorem Good.runP {i : Nat} (hi : i < 8) : ∀ (ps : List Ins) {S : DevS} {N : Nat}, Good S N → (∀ p ∈ ps, 0 ≤ p.2.1) → N + ps.length < 1000000000 → Good (S.runP i ps) (N + ps.length) := by
  intro ps
  induction ps with
  | nil => intro S N h _ _; exact h
  | cons p ps ih =>
    intro S N h hp hN
    simp only [List.length_cons] at hN ⊢
    have := ih (h.exec1 hi p (hp p (by simp)) (by omega)) (fun q hq => hp q (by simp [hq])) (by omega)
    rw [show N + (ps.length + 1) = N + 1 + ps.length by omega]
    exact this
theorem Good.hist {S : DevS} {N : Nat} (h : Good S N) (hN : N < 1000000) : ∀ l ∈ S.lns, l.hist.length < 1000000 := by
  intro l hl
  obtain ⟨q, hq, rfl⟩ := List.getElem_of_mem hl
  obtain ⟨a, b, _⟩ := h.ln q S.lns[q] (by simp [hq])
  omega

section
variable {F : Nat → Prop} {d : Nat} {t : Nat → Nat} {w : World} {S : DevS} {N : Nat}
theorem storeV (h : DV F d t w S) (i : Nat) (hi : i < 8) (hG : Good S N) (hN : N < 1000000) (off v : Int) (ho : 0 ≤ off ∧ off < 18446744073709551616) :
    Calls Try.prog 27 #[.pointer (some ⟨t i, 0, none⟩), .int .u64 off, .int .u64 v] w fun e w' => e = .returned (.tuple #[]) ∧ DV F d t w' (S.store i off v) ∧ Ch F w w' := by
  obtain ⟨h1, L, rfl, h3, h4⟩ := h
  refine (thStore w d L S h3 i hi off ho v (hG.hist hN)).mono ?_
  rintro e w' ⟨rfl, L2, hL2, hD2, hC2, hF2⟩
  refine ⟨rfl, ⟨fun b hb => h1 b (Nat.le_trans hC2.size hb), L2, hL2, hD2, fun b hb => ?_⟩, hC2.mono (fun b hb _ => h4 b hb)⟩
  rcases hF2 b hb with h | h
  · exact h4 b h
  · exact h1 b h
theorem flushV (h : DV F d t w S) (i : Nat) (hi : i < 8) (hG : Good S N) (hN : N < 1000000) (off : Int) (ho : 0 ≤ off ∧ off < 18446744073709551616) :
    Calls Try.prog 102 #[.pointer (some ⟨t i, 0, none⟩), .int .u64 off] w fun e w' => e = .returned (.tuple #[]) ∧ DV F d t w' (S.flush i off) ∧ Ch F w w' := by
  obtain ⟨h1, L, rfl, h3, h4⟩ := h
  refine (thFlush w d L S h3 i hi off ho (by have := (hG.nt i hi).1; omega) (hG.hist hN)).mono ?_
  rintro e w' ⟨rfl, hD2, hC2⟩
  exact ⟨rfl, ⟨fun b hb => h1 b (Nat.le_trans hC2.size hb), L, rfl, hD2, h4⟩, hC2.mono (fun b hb _ => h4 b hb)⟩
theorem fenceV (h : DV F d t w S) (i : Nat) (hi : i < 8) (hG : Good S N) (hN : N < 1000000) :
    Calls Try.prog 101 #[.pointer (some ⟨t i, 0, none⟩)] w fun e w' => e = .returned (.tuple #[]) ∧ DV F d t w' (S.fence i) ∧ Ch F w w' := by
  obtain ⟨h1, L, rfl, h3, h4⟩ := h
  cases hc : S.cntB true
  · refine (thFence_off w d L S h3 i hi hc).mono ?_
    rintro e w' ⟨rfl, hD2, hC2⟩
    have hE : S.fence i = S.cnt i true := by unfold DevS.fence; rw [hc]; rfl
    rw [hE]
    exact ⟨rfl, ⟨fun b hb => h1 b (Nat.le_trans hC2.size hb), L, rfl, hD2, h4⟩, hC2.mono (fun b hb _ => h4 b hb)⟩
  · refine (thFence_on w d L S N h3 i hi hc (hG.cnt i true) (by omega)).mono ?_
    rintro e w' ⟨rfl, ⟨L2, hL2, hr2, hD2⟩, hC2⟩
    refine ⟨rfl, ⟨fun b hb => h1 b (Nat.le_trans hC2.size hb), L2, hL2, hD2, fun b hb => h4 b ?_⟩, hC2.mono (fun b hb _ => h4 b hb)⟩
    unfold Fp at hb ⊢
    rwa [hr2] at hb
end

set_option maxRecDepth 100000 in
set_option maxHeartbeats 1000000 in
theorem memExec {F : Nat → Prop} {d : Nat} {t : Nat → Nat} (w : World) {S : DevS} {N : Nat} (h : DV F d t w S) (i : Nat) (hi : i < 8) (hG : Good S N) (hN : N < 1000000) (op off v : Int) (ho : 0 ≤ off ∧ off < 18446744073709551616) (hop : 1 ≤ op ∧ op ≤ 3) :
    Calls Try.prog 58 #[.agg #[.int .u8 op, .int .u64 off, .int .u64 v], .iface 61 (.pointer (some ⟨t i, 0, none⟩))] w fun e w' => e = .returned (.tuple #[]) ∧ DV F d t w' (S.exec1 i (op, off, v)) ∧ Ch F w w' := by
  have H := Lib.hid h
  have HG := Lib.hid hG
  have HO := Lib.hid ho
  clear h hG ho
  rcases (by omega : op = 1 ∨ op = 2 ∨ op = 3) with rfl | rfl | rfl
  · have HE : Hid (S.exec1 i (1, off, v) = S.store i off v) := by show _ = _; simp [DevS.exec1]
    go_enter Try.func58, Try.ntmps58
    go_wp2_with (first | (go_at_call 27; refine (storeV (H.out.alloc _) i hi HG.out hN off v HO.out).mono ?_; rintro e w1 ⟨rfl, hD, hC⟩; have HD := Lib.hid hD; have HC := Lib.hid hC; clear hD hC))
    go_end0
    rw [HE.out]
    exact ⟨rfl, HD.out, (Ch.of_below (bl_alloc (Below.refl _ _) _)).trans HC.out (fun _ h _ => h)⟩
  · have HE : Hid (S.exec1 i (2, off, v) = S.flush i off) := by show _ = _; simp [DevS.exec1]
    go_enter Try.func58, Try.ntmps58
    go_wp2_with (first | (go_at_call 102; refine (flushV (H.out.alloc _) i hi HG.out hN off HO.out).mono ?_; rintro e w1 ⟨rfl, hD, hC⟩; have HD := Lib.hid hD; have HC := Lib.hid hC; clear hD hC))
    go_end0
    rw [HE.out]
    exact ⟨rfl, HD.out, (Ch.of_below (bl_alloc (Below.refl _ _) _)).trans HC.out (fun _ h _ => h)⟩
  · have HE : Hid (S.exec1 i (3, off, v) = S.fence i) := by show _ = _; simp [DevS.exec1]
    go_enter Try.func58, Try.ntmps58
    go_wp2_with (first | (go_at_call 101; refine (fenceV (H.out.alloc _) i hi HG.out hN).mono ?_; rintro e w1 ⟨rfl, hD, hC⟩; have HD := Lib.hid hD; have HC := Lib.hid hC; clear hD hC))
    go_end0
    rw [HE.out]
    exact ⟨rfl, HD.out, (Ch.of_below (bl_alloc (Below.refl _ _) _)).trans HC.out (fun _ h _ => h)⟩
end Go.Proofs.Ytljolgcmkejlnaa
