/- Contracts of valid and Run of a program. -/
import Derived.Test.YtljolgcmkejlnaaMemA
namespace Go.Proofs.Ytljolgcmkejlnaa
open Go.RowKit
set_option linter.unusedVariables false

theorem pcells_cons (p : Ins) (ps : List Ins) : pcells (p :: ps) = .int .u8 p.1 :: .int .u64 p.2.1 :: .int .u64 p.2.2 :: pcells ps := by simp [pcells]
theorem pcells_append (ps qs : List Ins) : pcells (ps ++ qs) = pcells ps ++ pcells qs := by simp [pcells]
theorem length_pcells (ps : List Ins) : (pcells ps).length = ps.length * 3 := by
  induction ps with
  | nil => rfl
  | cons p ps ih => rw [pcells_cons, List.length_cons, List.length_cons, List.length_cons, ih, List.length_cons]; omega
theorem pcells_get (ps : List Ins) : ∀ (k : Nat) (h : k < ps.length), (pcells ps)[k * 3]? = some (.int .u8 ps[k].1) ∧ (pcells ps)[k * 3 + 1]? = some (.int .u64 ps[k].2.1) ∧ (pcells ps)[k * 3 + 2]? = some (.int .u64 ps[k].2.2) := by
  induction ps with
  | nil => intro k h; simp at h
  | cons p ps ih =>
    intro k h
    cases k with
    | zero => simp [pcells]
    | succ k =>
      have := ih k (by simpa using h)
      rw [pcells_cons, show (k + 1) * 3 = k * 3 + 1 + 1 + 1 by omega]
      simpa using this
/-- One instruction of a program. -/
theorem Sl.ins {w : World} {A : Option Addr} {m c : Nat} {ps : List Ins} (h : Sl 110 3 w A m c (pcells ps)) {k : Nat} (hk : k < ps.length) :
    ∃ g off, A = some ⟨g, off, none⟩ ∧ g < w.heap.size ∧ w.cell? ⟨g, off + k * 3, none⟩ = some (.int .u8 ps[k].1) ∧ w.cell? ⟨g, off + k * 3 + 1, none⟩ = some (.int .u64 ps[k].2.1) ∧ w.cell? ⟨g, off + k * 3 + 2, none⟩ = some (.int .u64 ps[k].2.2) := by
  obtain ⟨e1, e2, e3⟩ := pcells_get ps k hk
  obtain ⟨g, off, hA, hl, _⟩ := h.at_ (j := k * 3) (by rw [length_pcells]; omega)
  have c1 := h.cells _ hA _ _ e1
  have c2 := h.cells _ hA _ _ e2
  have c3 := h.cells _ hA _ _ e3
  have h1 : ∀ j, (⟨g, off, none⟩ : Addr).add j = ⟨g, off + j, none⟩ := by intro j; unfold Addr.add; split <;> simp_all
  rw [h1] at c1 c2 c3
  exact ⟨g, off, hA, hl, c1, c2, c3⟩
def insB (p : Ins) : Bool := decide (1 ≤ p.1) && decide (p.1 ≤ 3)

set_option maxRecDepth 100000 in
set_option maxHeartbeats 1000000 in
theorem memValid (w : World) (A : Option Addr) (n c : Nat) (ps : List Ins) (hn : ps.length = n) (hm : n ≤ 1000000000) (hS : Sl 110 3 w A n c (pcells ps)) :
    Calls Try.prog 57 #[.slice A n c] w fun e w' => e = .returned (.bool (ps.all insB)) ∧ Below w.heap.size w w' := by
  have HN := Lib.hid hn
  have HS := Lib.hid hS
  clear hn hS
  go_enter Try.func57, Try.ntmps57
  go_wp2
  go_loopw [7, 4, 8, 9, 10, 11, 12, 13, 14, 15, 16, 17, 18, 19] (fun i _ _ _ _ _ _ _ _ _ _ _ _ _ wr => ∃ k : Nat, k ≤ n ∧ i = .int .i64 k ∧ (ps.take k).all insB = true ∧ Below w.heap.size w wr) (fun i _ _ _ _ _ _ _ _ _ _ _ _ _ _ => n - (intOf i).toNat)
  case atStart => exact ⟨0, by omega, rfl, by simp, Below.refl _ _⟩
  case round =>
    obtain ⟨k, hk, rfl, hall, hB⟩ := hrel
    have HA := Lib.hid hall
    have HB := Lib.hid hB
    by_cases hlt : k < n
    · have hkl : k < ps.length := by rw [HN.out]; exact hlt
      obtain ⟨g, off, hA', hl, c1, c2, c3⟩ := (HS.out.keep (fun b hb => hB.block b (HS.out.lt hb))).ins hkl
      obtain ⟨⟨op, of, v⟩, hp⟩ : ∃ p, ps[k] = p := ⟨_, rfl⟩
      rw [hp] at c1 c2 c3
      have HP := Lib.hid hp
      subst hA'
      clear hall hB hp
      have hgn : ¬ g = wr.heap.size := by omega
      by_cases h1 : op < 1
      · have HR : Hid (ps.all insB = false) := all_false insB ps k hkl (by rw [HP.out]; simp [insB]; omega)
        go_wp2
        go_ret
        rw [HR.out]
        exact ⟨rfl, by have := HB.out; (repeat (first | with_reducible exact Below.refl _ _ | with_reducible refine bl_alloc ?_ _ | with_reducible refine bl_drew ?_ | with_reducible refine bl_drewN ?_ _ | with_reducible refine bl_bx ?_ _ | with_reducible exact BX.below _ | with_reducible refine bl_set ?_ (by first | (exact Nat.le_refl _) | (simp; done) | (simp; omega)) _ | assumption))⟩
      · by_cases h3 : 3 < op
        · have HR : Hid (ps.all insB = false) := all_false insB ps k hkl (by rw [HP.out]; simp [insB]; omega)
          go_wp2
          go_ret
          rw [HR.out]
          exact ⟨rfl, by have := HB.out; (repeat (first | with_reducible exact Below.refl _ _ | with_reducible refine bl_alloc ?_ _ | with_reducible refine bl_drew ?_ | with_reducible refine bl_drewN ?_ _ | with_reducible refine bl_bx ?_ _ | with_reducible exact BX.below _ | with_reducible refine bl_set ?_ (by first | (exact Nat.le_refl _) | (simp; done) | (simp; omega)) _ | assumption))⟩
        · go_wp2
          go_roundw
          case rel => exact ⟨k + 1, by omega, by go_num, all_take_succ insB ps k hkl HA.out (by rw [HP.out]; simp [insB]; omega), by have := HB.out; (repeat (first | with_reducible exact Below.refl _ _ | with_reducible refine bl_alloc ?_ _ | with_reducible refine bl_drew ?_ | with_reducible refine bl_drewN ?_ _ | with_reducible refine bl_bx ?_ _ | with_reducible exact BX.below _ | with_reducible refine bl_set ?_ (by first | (exact Nat.le_refl _) | (simp; done) | (simp; omega)) _ | assumption))⟩
          case measure => simp [intOf]; omega
    · clear hall hB
      have HR : Hid (ps.all insB = true) := all_take_all insB ps k (by rw [HN.out]; exact hlt) HA.out
      go_wp2
      go_ret
      rw [HR.out]
      exact ⟨rfl, HB.out⟩

/-- What Run leaves. -/
def RunPost (F : Nat → Prop) (d : Nat) (t : Nat → Nat) (i : Nat) (S : DevS) (ps : List Ins) (w : World) (e : Ending) (w' : World) : Prop :=
  e = .returned (.int .i64 ((S.runP i ps).thr i).err) ∧ DV F d t w' (S.runP i ps) ∧ Ch F w w'

set_option maxRecDepth 100000 in
set_option maxHeartbeats 2000000 in
theorem memRun {F : Nat → Prop} {d : Nat} {t : Nat → Nat} (w : World) {S : DevS} {N : Nat} (h : DV F d t w S) (i : Nat) (hi : i < 8) (hG : Good S N) (A : Option Addr) (n c : Nat) (ps : List Ins) (hn : ps.length = n) (hS : Sl 110 3 w A n c (pcells ps)) (hA : ∀ b, OwnB A b → ¬ F b)
    (hN : N + n < 1000000) (hps : ∀ p ∈ ps, insB p = true ∧ 0 ≤ p.2.1 ∧ p.2.1 < 18446744073709551616) :
    Calls Try.prog 45 #[.slice A n c, .iface 61 (.pointer (some ⟨t i, 0, none⟩))] w (RunPost F d t i S ps w) := by
  have H := Lib.hid h
  have HG := Lib.hid hG
  have HNN := Lib.hid hn
  have HS := Lib.hid hS
  have HA := Lib.hid hA
  have HPS := Lib.hid hps
  have HV : Hid (Calls Try.prog 57 #[.slice A n c] w fun e w' => e = .returned (.bool true) ∧ Below w.heap.size w w') := by
    have := memValid w A n c ps hn (by omega) hS
    rwa [show ps.all insB = true from List.all_eq_true.2 fun p hp => (hps p hp).1] at this
  clear h hG hn hS hA hps
  go_enter Try.func45, Try.ntmps45
  go_wp2_with (first | (go_at_call 57; refine HV.out.mono ?_; rintro e w1 ⟨rfl, hb⟩; obtain ⟨x, rfl⟩ := bx_of hb; clear hb))
  have HI0 : Hid (DV F d t x.w S ∧ Ch F w x.w) := ⟨H.out.bx x, Ch.of_below x.below⟩
  obtain ⟨w1, hw1⟩ : ∃ w1, x.w = w1 := ⟨_, rfl⟩
  rw [hw1] at HI0 ⊢
  clear hw1 HV
  go_loopw [16, 6, 17, 18, 19, 20, 21, 22, 23] (fun i' _ _ _ _ _ _ _ _ wr => ∃ k : Nat, k ≤ n ∧ i' = .int .i64 k ∧ DV F d t wr (S.runP i (ps.take k)) ∧ Ch F w wr) (fun i' _ _ _ _ _ _ _ _ _ => n - (intOf i').toNat)
  case atStart => exact ⟨0, by omega, rfl, HI0.out.1, HI0.out.2⟩
  case round =>
    obtain ⟨k, hk, rfl, hD, hC⟩ := hrel
    have HD := Lib.hid hD
    have HC := Lib.hid hC
    by_cases hlt : k < n
    · have hkl : k < ps.length := by rw [HNN.out]; exact hlt
      obtain ⟨g, off, hA', hl, c1, c2, c3⟩ := (HS.out.ch hC HA.out).ins hkl
      obtain ⟨⟨op, of, v⟩, hp⟩ : ∃ p, ps[k] = p := ⟨_, rfl⟩
      rw [hp] at c1 c2 c3
      have hpp := HPS.out _ (List.getElem_mem hkl)
      rw [hp] at hpp
      have HP := Lib.hid hp
      have hgF : ¬ F g := HA.out g (by rw [hA']; simp [OwnB])
      subst hA'
      have HGk : Hid (Good (S.runP i (ps.take k)) (N + k)) := by
        have := Good.runP hi (ps.take k) HG.out (fun p hp => (HPS.out p (List.mem_of_mem_take hp)).2.1) (by rw [List.length_take]; omega)
        rwa [List.length_take, Nat.min_eq_left (by omega)] at this
      have hop : 1 ≤ op ∧ op ≤ 3 := by have := hpp.1; simpa [insB] using this
      have HOF := Lib.hid hpp.2
      have hgn : ¬ g = wr.heap.size := by omega
      clear hD hC hp hpp
      go_wp2_with (first | (go_at_call 58; refine (memExec _ (HD.out.below (by (repeat (first | with_reducible exact Below.refl _ _ | with_reducible refine bl_alloc ?_ _ | with_reducible refine bl_drew ?_ | with_reducible refine bl_drewN ?_ _ | with_reducible refine bl_bx ?_ _ | with_reducible exact BX.below _ | with_reducible refine bl_set ?_ (by first | (exact Nat.le_refl _) | (simp; done) | (simp; omega)) _ | assumption)))) i hi HGk.out (by omega) op of v HOF.out hop).mono ?_; rintro e w2 ⟨rfl, hD2, hC2⟩; have HD2 := Lib.hid hD2; have HC2 := Lib.hid hC2; clear hD2 hC2))
      go_roundw
      case rel =>
        refine ⟨k + 1, by omega, by go_num, ?_, (HC.out.alloc _).trans HC2.out (fun _ h _ => h)⟩
        rw [List.take_succ_eq_append_getElem hkl, runP_snoc, HP.out]
        exact HD2.out
      case measure => simp [intOf]; omega
    · obtain rfl : k = n := by omega
      clear hD hC
      have hE : ps.take k = ps := List.take_of_length_le (by rw [HNN.out]; omega)
      rw [hE] at HD
      have HER : Hid (Calls Try.prog 36 #[.pointer (some ⟨t i, 0, none⟩)] wr fun e w' => e = .returned (.int .i64 ((S.runP i ps).thr i).err) ∧ wr = w') := by
        obtain ⟨_, L, rfl, h3, _⟩ := HD.out
        exact thErr wr d L _ h3 i hi
      clear hE
      go_wp2_with (first | (go_at_call 36; refine HER.out.mono ?_; rintro e w2 ⟨rfl, rfl⟩))
      go_ret
      exact ⟨rfl, HD.out, HC.out⟩
end Go.Proofs.Ytljolgcmkejlnaa
