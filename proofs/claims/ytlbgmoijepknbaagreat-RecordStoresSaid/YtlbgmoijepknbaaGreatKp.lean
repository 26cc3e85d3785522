/- Programs of the memory and the crash of a device (merged). -/
import Derived.Test.YtlbgmoijepknbaaGreatKd
import Derived.Test.YtlbgmoijepknbaaGreatStr
import Derived.Test.YtlbgmoijepknbaaGreatLib
import Derived.Laws.BitsAllLaws
import Derived.Deep.Cut
namespace Go.Proofs.YtlbgmoijepknbaaGreat
open Go.RowKit
set_option linter.unusedVariables false

theorem pcells_cons (p : Ins) (ps : List Ins) : pcells (p :: ps) = .int .u8 p.1 :: .int .u64 p.2.1 :: .int .u64 p.2.2 :: pcells ps := by simp [pcells]
theorem pcells_append (ps qs : List Ins) : pcells (ps ++ qs) = pcells ps ++ pcells qs := by simp [pcells]
theorem length_pcells (ps : List Ins) : (pcells ps).length = ps.length * 3 := by
  induction ps with
  | nil => rfl
  | cons p ps ih => rw [pcells_cons, List.length_cons, List.length_cons, List.length_cons, ih, List.length_cons]; omega
theorem pcells_get (ps : List Ins) : ∀ (k : Nat) (h : k < ps.length), (pcells ps)[k * 3]? = some (.int .u8 ps[k].1) ∧ (pcells ps)[k * 3 + 1]? = some (.int .u64 ps[k].2.1) ∧ (pcells ps)[k * 3 + 2]? = some (.int .u64 ps[k].2.2) := by
  induction ps with
  | nil => intro k h; simp at h
  | cons p ps ih =>
    intro k h
    cases k with
    | zero => simp [pcells]
    | succ k =>
      have := ih k (by simpa using h)
      rw [pcells_cons, show (k + 1) * 3 = k * 3 + 1 + 1 + 1 by omega]
      simpa using this
/-- One instruction of a program. -/
theorem Sl.ins {w : World} {A : Option Addr} {m c : Nat} {ps : List Ins} (h : Sl 102 3 w A m c (pcells ps)) {k : Nat} (hk : k < ps.length) :
    ∃ g off, A = some ⟨g, off, none⟩ ∧ g < w.heap.size ∧ w.cell? ⟨g, off + k * 3, none⟩ = some (.int .u8 ps[k].1) ∧ w.cell? ⟨g, off + k * 3 + 1, none⟩ = some (.int .u64 ps[k].2.1) ∧ w.cell? ⟨g, off + k * 3 + 2, none⟩ = some (.int .u64 ps[k].2.2) := by
  obtain ⟨e1, e2, e3⟩ := pcells_get ps k hk
  obtain ⟨g, off, hA, hl, _⟩ := h.at_ (j := k * 3) (by rw [length_pcells]; omega)
  have c1 := h.cells _ hA _ _ e1
  have c2 := h.cells _ hA _ _ e2
  have c3 := h.cells _ hA _ _ e3
  have h1 : ∀ j, (⟨g, off, none⟩ : Addr).add j = ⟨g, off + j, none⟩ := by intro j; unfold Addr.add; split <;> simp_all
  rw [h1] at c1 c2 c3
  exact ⟨g, off, hA, hl, c1, c2, c3⟩
def insB (p : Ins) : Bool := decide (1 ≤ p.1) && decide (p.1 ≤ 3)

set_option maxRecDepth 100000 in
set_option maxHeartbeats 1000000 in
theorem memValid (w : World) (A : Option Addr) (n c : Nat) (ps : List Ins) (hn : ps.length = n) (hm : n ≤ 1000000000) (hS : Sl 102 3 w A n c (pcells ps)) :
    Calls Tryz.prog 29 #[.slice A n c] w fun e w' => e = .returned (.bool (ps.all insB)) ∧ Below w.heap.size w w' := by
  have HN := Lib.hid hn
  have HS := Lib.hid hS
  clear hn hS
  go_enter Tryz.func29, Tryz.ntmps29
  go_wp2
  go_loopw [7, 4, 8, 9, 10, 11, 12, 13, 14, 15, 16, 17, 18, 19] (fun i _ _ _ _ _ _ _ _ _ _ _ _ _ wr => ∃ k : Nat, k ≤ n ∧ i = .int .i64 k ∧ (ps.take k).all insB = true ∧ Below w.heap.size w wr) (fun i _ _ _ _ _ _ _ _ _ _ _ _ _ _ => n - (intOf i).toNat)
  case atStart => exact ⟨0, by omega, rfl, by simp, Below.refl _ _⟩
  case round =>
    obtain ⟨k, hk, rfl, hall, hB⟩ := hrel
    have HA := Lib.hid hall
    have HB := Lib.hid hB
    by_cases hlt : k < n
    · have hkl : k < ps.length := by rw [HN.out]; exact hlt
      obtain ⟨g, off, hA', hl, c1, c2, c3⟩ := (HS.out.keep (fun b hb => hB.block b (HS.out.lt hb))).ins hkl
      obtain ⟨⟨op, of, v⟩, hp⟩ : ∃ p, ps[k] = p := ⟨_, rfl⟩
      rw [hp] at c1 c2 c3
      have HP := Lib.hid hp
      subst hA'
      clear hall hB hp
      have hgn : ¬ g = wr.heap.size := by omega
      by_cases h1 : op < 1
      · have HR : Hid (ps.all insB = false) := all_false insB ps k hkl (by rw [HP.out]; simp [insB]; omega)
        go_wp2
        go_ret
        rw [HR.out]
        exact ⟨rfl, by have := HB.out; (repeat (first | with_reducible exact Below.refl _ _ | with_reducible refine bl_alloc ?_ _ | with_reducible refine bl_drew ?_ | with_reducible refine bl_drewN ?_ _ | with_reducible refine bl_bx ?_ _ | with_reducible exact BX.below _ | with_reducible refine bl_set ?_ (by first | (exact Nat.le_refl _) | (simp; done) | (simp; omega)) _ | assumption))⟩
      · by_cases h3 : 3 < op
        · have HR : Hid (ps.all insB = false) := all_false insB ps k hkl (by rw [HP.out]; simp [insB]; omega)
          go_wp2
          go_ret
          rw [HR.out]
          exact ⟨rfl, by have := HB.out; (repeat (first | with_reducible exact Below.refl _ _ | with_reducible refine bl_alloc ?_ _ | with_reducible refine bl_drew ?_ | with_reducible refine bl_drewN ?_ _ | with_reducible refine bl_bx ?_ _ | with_reducible exact BX.below _ | with_reducible refine bl_set ?_ (by first | (exact Nat.le_refl _) | (simp; done) | (simp; omega)) _ | assumption))⟩
        · go_wp2
          go_roundw
          case rel => exact ⟨k + 1, by omega, by go_num, all_take_succ insB ps k hkl HA.out (by rw [HP.out]; simp [insB]; omega), by have := HB.out; (repeat (first | with_reducible exact Below.refl _ _ | with_reducible refine bl_alloc ?_ _ | with_reducible refine bl_drew ?_ | with_reducible refine bl_drewN ?_ _ | with_reducible refine bl_bx ?_ _ | with_reducible exact BX.below _ | with_reducible refine bl_set ?_ (by first | (exact Nat.le_refl _) | (simp; done) | (simp; omega)) _ | assumption))⟩
          case measure => simp [intOf]; omega
    · clear hall hB
      have HR : Hid (ps.all insB = true) := all_take_all insB ps k (by rw [HN.out]; exact hlt) HA.out
      go_wp2
      go_ret
      rw [HR.out]
      exact ⟨rfl, HB.out⟩

/-- What Run leaves. -/
def RunPost (F : Nat → Prop) (d : Nat) (t : Nat → Nat) (i : Nat) (S : DevS) (ps : List Ins) (w : World) (e : Ending) (w' : World) : Prop :=
  e = .returned (.int .i64 ((S.runP i ps).thr i).err) ∧ DV F d t w' (S.runP i ps) ∧ Ch F w w'

set_option maxRecDepth 100000 in
set_option maxHeartbeats 2000000 in
theorem memRun {F : Nat → Prop} {d : Nat} {t : Nat → Nat} (w : World) {S : DevS} {N : Nat} (h : DV F d t w S) (i : Nat) (hi : i < 8) (hG : Good S N) (A : Option Addr) (n c : Nat) (ps : List Ins) (hn : ps.length = n) (hS : Sl 102 3 w A n c (pcells ps)) (hA : ∀ b, OwnB A b → ¬ F b)
    (hN : N + n < 1000000) (hps : ∀ p ∈ ps, insB p = true ∧ 0 ≤ p.2.1 ∧ p.2.1 < 18446744073709551616) :
    Calls Tryz.prog 11 #[.slice A n c, .iface 53 (.pointer (some ⟨t i, 0, none⟩))] w (RunPost F d t i S ps w) := by
  have H := Lib.hid h
  have HG := Lib.hid hG
  have HNN := Lib.hid hn
  have HS := Lib.hid hS
  have HA := Lib.hid hA
  have HPS := Lib.hid hps
  have HV : Hid (Calls Tryz.prog 29 #[.slice A n c] w fun e w' => e = .returned (.bool true) ∧ Below w.heap.size w w') := by
    have := memValid w A n c ps hn (by omega) hS
    rwa [show ps.all insB = true from List.all_eq_true.2 fun p hp => (hps p hp).1] at this
  clear h hG hn hS hA hps
  go_enter Tryz.func11, Tryz.ntmps11
  go_wp2_with (first | (go_at_call 29; refine HV.out.mono ?_; rintro e w1 ⟨rfl, hb⟩; obtain ⟨x, rfl⟩ := bx_of hb; clear hb))
  have HI0 : Hid (DV F d t x.w S ∧ Ch F w x.w) := ⟨H.out.bx x, Ch.of_below x.below⟩
  obtain ⟨w1, hw1⟩ : ∃ w1, x.w = w1 := ⟨_, rfl⟩
  rw [hw1] at HI0 ⊢
  clear hw1 HV
  go_loopw [16, 6, 17, 18, 19, 20, 21, 22, 23] (fun i' _ _ _ _ _ _ _ _ wr => ∃ k : Nat, k ≤ n ∧ i' = .int .i64 k ∧ DV F d t wr (S.runP i (ps.take k)) ∧ Ch F w wr) (fun i' _ _ _ _ _ _ _ _ _ => n - (intOf i').toNat)
  case atStart => exact ⟨0, by omega, rfl, HI0.out.1, HI0.out.2⟩
  case round =>
    obtain ⟨k, hk, rfl, hD, hC⟩ := hrel
    have HD := Lib.hid hD
    have HC := Lib.hid hC
    by_cases hlt : k < n
    · have hkl : k < ps.length := by rw [HNN.out]; exact hlt
      obtain ⟨g, off, hA', hl, c1, c2, c3⟩ := (HS.out.ch hC HA.out).ins hkl
      obtain ⟨⟨op, of, v⟩, hp⟩ : ∃ p, ps[k] = p := ⟨_, rfl⟩
      rw [hp] at c1 c2 c3
      have hpp := HPS.out _ (List.getElem_mem hkl)
      rw [hp] at hpp
      have HP := Lib.hid hp
      have hgF : ¬ F g := HA.out g (by rw [hA']; simp [OwnB])
      subst hA'
      have HGk : Hid (Good (S.runP i (ps.take k)) (N + k)) := by
        have := Good.runP hi (ps.take k) HG.out (fun p hp => (HPS.out p (List.mem_of_mem_take hp)).2.1) (by rw [List.length_take]; omega)
        rwa [List.length_take, Nat.min_eq_left (by omega)] at this
      have hop : 1 ≤ op ∧ op ≤ 3 := by have := hpp.1; simpa [insB] using this
      have HOF := Lib.hid hpp.2
      have hgn : ¬ g = wr.heap.size := by omega
      clear hD hC hp hpp
      go_wp2_with (first | (go_at_call 30; refine (memExec _ (HD.out.below (by (repeat (first | with_reducible exact Below.refl _ _ | with_reducible refine bl_alloc ?_ _ | with_reducible refine bl_drew ?_ | with_reducible refine bl_drewN ?_ _ | with_reducible refine bl_bx ?_ _ | with_reducible exact BX.below _ | with_reducible refine bl_set ?_ (by first | (exact Nat.le_refl _) | (simp; done) | (simp; omega)) _ | assumption)))) i hi HGk.out (by omega) op of v HOF.out hop).mono ?_; rintro e w2 ⟨rfl, hD2, hC2⟩; have HD2 := Lib.hid hD2; have HC2 := Lib.hid hC2; clear hD2 hC2))
      go_roundw
      case rel =>
        refine ⟨k + 1, by omega, by go_num, ?_, (HC.out.alloc _).trans HC2.out (fun _ h _ => h)⟩
        rw [List.take_succ_eq_append_getElem hkl, runP_snoc, HP.out]
        exact HD2.out
      case measure => simp [intOf]; omega
    · obtain rfl : k = n := by omega
      clear hD hC
      have hE : ps.take k = ps := List.take_of_length_le (by rw [HNN.out]; omega)
      rw [hE] at HD
      have HER : Hid (Calls Tryz.prog 83 #[.pointer (some ⟨t i, 0, none⟩)] wr fun e w' => e = .returned (.int .i64 ((S.runP i ps).thr i).err) ∧ wr = w') := by
        obtain ⟨_, L, rfl, h3, _⟩ := HD.out
        exact thErr wr d L _ h3 i hi
      clear hE
      go_wp2_with (first | (go_at_call 83; refine HER.out.mono ?_; rintro e w2 ⟨rfl, rfl⟩))
      go_ret
      exact ⟨rfl, HD.out, HC.out⟩
end Go.Proofs.YtlbgmoijepknbaaGreat

namespace Go.Proofs.YtlbgmoijepknbaaGreat
open Go.RowKit
set_option linter.unusedVariables false

theorem q_same {P : Program} {f : FuncId} {args : Array Value} {w : World} {n : Nat} {v : Value} (h : Calls P f args (w.drewN n) fun e w' => e = .returned v ∧ w.drewN n = w') : Calls P f args (w.drewN n) fun e w'' => e = .returned v ∧ ∃ m, w'' = w.drewN m :=
  h.mono fun _ _ ⟨he, hm⟩ => ⟨he, n, hm.symm⟩
theorem isNaNU (w : World) (x : Int) : Calls Tryz.prog 60 #[.int .u64 x] w fun e w' => e = .returned (.bool false) ∧ w = w' := by
  have h : (x != x) = false := by simp
  go_enter Tryz.func60, Tryz.ntmps60
  go_wp2
  go_ret
  exact ⟨rfl, rfl⟩
set_option maxRecDepth 100000 in
theorem lessU (w : World) (x y : Int) : Calls Tryz.prog 50 #[.int .u64 x, .int .u64 y] w fun e w' => e = .returned (.bool (decide (x < y))) ∧ w = w' := by
  go_enter Tryz.func50, Tryz.ntmps50
  go_wp2_with (go_at_call 60; refine (isNaNU _ _).mono ?_; rintro e w' ⟨rfl, rfl⟩)
  go_ret
  exact ⟨rfl, rfl⟩

set_option maxRecDepth 100000 in
set_option maxHeartbeats 1000000 in
theorem insU (w : World) (A : Option Addr) (n c : Nat) (xs : List Int) (hn : xs.length = n) (h1 : 1 ≤ n) (hm : n ≤ 1000) (hR : Rd .u64 w A xs) (hs : xs.Pairwise (· ≤ ·)) :
    Calls Tryz.prog 44 #[.slice A n c, .int .i64 0, .int .i64 (n : Int)] w fun e w' => e = .returned (.tuple #[]) ∧ ∃ m, w' = w.drewN m := by
  have HN := Lib.hid hn
  have HR := Lib.hid hR
  have HS := Lib.hid hs
  clear hn hR hs
  go_enter Tryz.func44, Tryz.ntmps44
  go_wp2
  go_loopw [6, 7, 10, 11, 12, 13, 14, 15, 16, 17, 18, 19, 20, 21, 22, 23, 24, 25, 26, 27, 28, 29, 30, 31, 32, 33, 34, 35, 36, 37, 38, 39, 40, 41, 42, 43, 44, 45, 46, 47, 48] (fun i _ _ _ _ _ _ _ _ _ _ _ _ _ _ _ _ _ _ _ _ _ _ _ _ _ _ _ _ _ _ _ _ _ _ _ _ _ _ _ _ wr => ∃ k m : Nat, 1 ≤ k ∧ k ≤ n ∧ i = .int .i64 k ∧ wr = w.drewN m) (fun i _ _ _ _ _ _ _ _ _ _ _ _ _ _ _ _ _ _ _ _ _ _ _ _ _ _ _ _ _ _ _ _ _ _ _ _ _ _ _ _ _ => n - (intOf i).toNat)
  case atStart => exact ⟨1, 0, by omega, by omega, rfl, rfl⟩
  case round =>
    obtain ⟨k, m, hk1, hk, rfl, rfl⟩ := hrel
    by_cases hlt : k < n
    · obtain ⟨j, rfl⟩ : ∃ j, k = j + 1 := ⟨k - 1, by omega⟩
      have hkl : j + 1 < xs.length := by rw [HN.out]; exact hlt
      obtain ⟨g, off, hA, hl, c1⟩ := HR.out.at_ hkl
      obtain ⟨g', off', hA', _, c0⟩ := HR.out.at_ (i := j) (by omega)
      rw [hA] at hA'
      injection hA' with hA'
      injection hA' with hA' hA''
      subst hA hA' hA''
      have hle := List.pairwise_iff_getElem.1 HS.out j (j + 1) (by omega) hkl (by omega)
      have hd : decide (xs[j + 1] < xs[j]) = false := by simp; omega
      have hd0 : decide ((j : Int) + 1 > 0) = true := decide_eq_true (by omega)
      have hd1 : decide (0 < (j : Int) + 1) = true := decide_eq_true (by omega)
      have q1 : ((j + 1 : Nat) : Int) = (j : Int) + 1 := by omega
      have q2 : (j : Int) + 1 - 1 = (j : Int) := by omega
      have q3 : IntKind.i64.wrap ((j : Int) + 1 - 1) = (j : Int) := by rw [q2]; exact IntWalk.i64_in _ (by omega)
      have q4 : ((j : Int) + 1).toNat = j + 1 := by omega
      clear hle
      obtain ⟨W, hW⟩ : ∃ W, w.drewN m = W := ⟨_, rfl⟩
      have c0' : W.cell? ⟨g, off + j, none⟩ = some (.int .u64 xs[j]) := by rw [← hW]; exact c0
      have c1' : W.cell? ⟨g, off + (j + 1), none⟩ = some (.int .u64 xs[j + 1]) := by rw [← hW]; exact c1
      have hl' : g < W.heap.size := by rw [← hW]; exact hl
      rw [hW]
      have HW := Lib.hid hW
      clear hW
      rw [q1]
      go_wp2
      refine wp_loop_rounds 1 ?_
      rw [rounds_succ]
      go_wp2
      refine wp_region_quiet_lit (by kernel_rfl) (by kernel_rfl) ?_
      repeat (go_big_quiet_step ((go_at_call 50; exact q_same (lessU _ _ _))))
      refine wpQuiet_nil ?_
      rintro _ ⟨nq, rfl⟩
      go_wp2
      exact ⟨⟨j + 2, m + nq, by omega, by omega, by go_num, by rw [← HW.out, World.drewN_drewN]⟩, by simp [intOf]; omega⟩
    · go_wp2
      go_end0
      exact ⟨rfl, m, rfl⟩

set_option maxRecDepth 100000 in
set_option maxHeartbeats 1000000 in
theorem pdqU (w : World) (A : Option Addr) (n c : Nat) (xs : List Int) (lim : Int) (hn : xs.length = n) (h1 : 1 ≤ n) (hm : n ≤ 12) (hR : Rd .u64 w A xs) (hs : xs.Pairwise (· ≤ ·)) :
    Calls Tryz.prog 38 #[.slice A n c, .int .i64 0, .int .i64 (n : Int), .int .i64 lim] w fun e w' => e = .returned (.tuple #[]) ∧ ∃ m, w' = w.drewN m := by
  have HI := Lib.hid (insU w A n c xs hn h1 (by omega) hR hs)
  have h12 : (n : Int) ≤ 12 := by omega
  clear hn hR hs
  go_enter Tryz.func38, Tryz.ntmps38
  go_wp2
  refine wp_loop_rounds 1 ?_
  rw [rounds_succ]
  go_wp2_with (go_at_call 44; refine HI.out.mono ?_; rintro e w' ⟨rfl, m, rfl⟩)
  exact bodyPost_ret (v := .tuple #[]) (by simp [results, Tryz.results38, go_sem]) rfl ⟨rfl, m, rfl⟩

/-- Some number. -/
def SomeI (w : World) (e : Ending) (w' : World) : Prop := ∃ z : Int, e = .returned (.int .i64 z) ∧ w = w'
set_option maxRecDepth 100000 in
set_option maxHeartbeats 1000000 in
theorem bitsLen64 (w : World) (n : Nat) (hm : n ≤ 12) : Calls Tryz.prog 54 #[.int .u64 (n : Int)] w (SomeI w) := by
  have e1 : ¬ (4294967296 : Int) ≤ (n : Int) := by omega
  have e2 : ¬ (65536 : Int) ≤ (n : Int) := by omega
  have e3 : ¬ (256 : Int) ≤ (n : Int) := by omega
  have e4 : IntKind.u8.wrap (n : Int) = (n : Int) := by rw [IntKind.wrap_u8]; omega
  go_enter Tryz.func54, Tryz.ntmps54
  go_wp2
  go_ret
  exact ⟨_, rfl, rfl⟩
set_option maxRecDepth 100000 in
set_option maxHeartbeats 1000000 in
theorem bitsLen (w : World) (n : Nat) (hm : n ≤ 12) : Calls Tryz.prog 39 #[.int .u64 (n : Int)] w (SomeI w) := by
  have HI := Lib.hid (fun w => bitsLen64 w n hm)
  go_enter Tryz.func39, Tryz.ntmps39
  go_wp2_with (go_at_call 54; refine (HI.out _).mono ?_; rintro e w' ⟨z, rfl, rfl⟩)
  go_ret
  exact ⟨_, rfl, rfl⟩
set_option maxRecDepth 100000 in
set_option maxHeartbeats 1000000 in
theorem sortU (w : World) (A : Option Addr) (n c : Nat) (xs : List Int) (hn : xs.length = n) (h1 : 1 ≤ n) (hm : n ≤ 12) (hR : Rd .u64 w A xs) (hs : xs.Pairwise (· ≤ ·)) :
    Calls Tryz.prog 27 #[.slice A n c] w fun e w' => e = .returned (.tuple #[]) ∧ ∃ m, w' = w.drewN m := by
  have HI := Lib.hid (fun z => pdqU w A n c xs z hn h1 hm hR hs)
  have hw : IntKind.u64.wrap (n : Int) = (n : Int) := IntWalk.u64_in _ (by omega)
  clear hn hR hs
  go_enter Tryz.func27, Tryz.ntmps27
  go_wp2_with (first | (go_at_call 39; refine (bitsLen _ n hm).mono ?_; rintro e w' ⟨z, rfl, rfl⟩) | (go_at_call 38; refine (HI.out z).mono ?_; rintro e w' ⟨rfl, m, rfl⟩))
  go_end0
  exact ⟨rfl, m, rfl⟩
end Go.Proofs.YtlbgmoijepknbaaGreat

namespace Go.Proofs.YtlbgmoijepknbaaGreat
open Go.RowKit
set_option linter.unusedVariables false

/-- Without repetitions of neighbours. -/
def cpt (xs : List Int) : List Int := xs.foldl (fun acc x => if acc.getLast? = some x then acc else acc ++ [x]) []
theorem cpt_snoc (xs : List Int) (x : Int) : cpt (xs ++ [x]) = if (cpt xs).getLast? = some x then cpt xs else cpt xs ++ [x] := by
  unfold cpt; rw [List.foldl_append]; rfl
theorem cpt_last (xs : List Int) : ∀ k, (cpt (xs.take k)).getLast? = (xs.take k).getLast? := by
  intro k
  induction k with
  | zero => simp [cpt]
  | succ k ih =>
    by_cases hk : k < xs.length
    · rw [List.take_succ_eq_append_getElem hk, cpt_snoc]
      split
      · rename_i h; rw [h]; simp [-List.take_append_getElem]
      · simp [-List.take_append_getElem]
    · rw [List.take_of_length_le (by omega)]
      rw [List.take_of_length_le (by omega)] at ih
      exact ih
theorem take_last (xs : List Int) (k : Nat) (hk : k < xs.length) : (xs.take (k + 1)).getLast? = some xs[k] := by
  rw [List.take_succ_eq_append_getElem hk]; simp [-List.take_append_getElem]
theorem cpt_eq (xs : List Int) (k : Nat) (hk : k + 1 < xs.length) (h : xs[k + 1] = xs[k]) : cpt (xs.take (k + 2)) = cpt (xs.take (k + 1)) := by
  rw [List.take_succ_eq_append_getElem hk, cpt_snoc, cpt_last, take_last xs k (by omega), h, if_pos rfl]
theorem cpt_ne (xs : List Int) (k : Nat) (hk : k + 1 < xs.length) (h : xs[k + 1] ≠ xs[k]) : cpt (xs.take (k + 2)) = cpt (xs.take (k + 1)) ++ [xs[k + 1]] := by
  rw [List.take_succ_eq_append_getElem hk, cpt_snoc, cpt_last, take_last xs k (by omega), if_neg (fun h' => h (by injection h' with h'; exact h'.symm))]
theorem cpt_one (xs : List Int) : cpt (xs.take 1) = xs.take 1 := by
  cases xs with
  | nil => simp [cpt]
  | cons x xs => simp [cpt]
theorem cpt_all (xs : List Int) : cpt (xs.take xs.length) = cpt xs := by rw [List.take_length]

/-- What Compact leaves. -/
def CptPost (w : World) (g n c : Nat) (xs : List Int) (e : Ending) (w' : World) : Prop :=
  ∃ zs, e = .returned (.slice (some ⟨g, 0, none⟩) (cpt xs).length c) ∧ IB .u64 34 w' g zs ∧ zs.take (cpt xs).length = cpt xs ∧ Ch (At g) w w'
/-- The inner loop's invariant: p words are read, k are kept. -/
def CptIn (w : World) (g n : Nat) (xs : List Int) (p k : Nat) (wr : World) : Prop :=
  ∃ ys : List Int, IB .u64 34 wr g ys ∧ ys.length = n ∧ ys.take k = cpt (xs.take p) ∧ k = (cpt (xs.take p)).length ∧ k + 1 ≤ p ∧ (∀ j, p ≤ j + 1 → ys[j]? = xs[j]?) ∧ Ch (At g) w wr

theorem CptIn.keep {w wr : World} {g n p k : Nat} {xs : List Int} (h : CptIn w g n xs p k wr) (nq : Nat) : CptIn w g n xs p k (wr.drewN nq) := by
  obtain ⟨ys, h1, h2, h3, h4, h5, h6, h7⟩ := h
  exact ⟨ys, h1.drewN nq, h2, h3, h4, h5, h6, h7.drewN nq⟩
theorem CptIn.skip {w wr : World} {g n p k : Nat} {xs : List Int} (h : CptIn w g n xs (p + 1) k wr) (hx : xs.length = n) (hp : p + 1 < n) (he : xs[p + 1]? = xs[p]?) : CptIn w g n xs (p + 2) k wr := by
  obtain ⟨ys, h1, h2, h3, h4, h5, h6, h7⟩ := h
  have e : cpt (xs.take (p + 2)) = cpt (xs.take (p + 1)) := cpt_eq xs p (by omega) (by
    rw [List.getElem?_eq_getElem (by omega), List.getElem?_eq_getElem (by omega)] at he
    injection he)
  exact ⟨ys, h1, h2, by rw [e]; exact h3, by rw [e]; exact h4, by omega, fun j hj => h6 j (by omega), h7⟩
theorem CptIn.take {w wr : World} {g n p k : Nat} {xs : List Int} (h : CptIn w g n xs (p + 1) k wr) (hx : xs.length = n) (hp : p + 1 < n) (v : Int) (hv : xs[p + 1]? = some v) (he : xs[p + 1]? ≠ xs[p]?) :
    CptIn w g n xs (p + 2) (k + 1) (wr.setCell ⟨g, k, none⟩ (.int .u64 v)) := by
  obtain ⟨ys, h1, h2, h3, h4, h5, h6, h7⟩ := h
  have hv' : xs[p + 1]'(by omega) = v := by rw [List.getElem?_eq_getElem (by omega)] at hv; injection hv
  have e : cpt (xs.take (p + 2)) = cpt (xs.take (p + 1)) ++ [v] := by
    rw [cpt_ne xs p (by omega) (fun h => he (by rw [List.getElem?_eq_getElem (by omega), List.getElem?_eq_getElem (by omega), h])), hv']
  have hk : k < ys.length := by omega
  refine ⟨ys.set k v, h1.set k v, by simpa using h2, ?_, by rw [e]; simp; omega, by omega, fun j hj => ?_, h7.set1 k _⟩
  · rw [e, List.take_succ_eq_append_getElem (by simpa using hk), List.take_set_of_le (Nat.le_refl k), h3]
    simp
  · rw [List.getElem?_set, if_neg (by omega)]
    exact h6 j (by omega)

set_option maxRecDepth 100000 in
set_option maxHeartbeats 4000000 in
theorem compactU (w : World) (g n : Nat) (xs : List Int) (hn : xs.length = n) (h1 : 1 ≤ n) (hm : n ≤ 1000000) (hI : IB .u64 34 w g xs) :
    Calls Tryz.prog 28 #[.slice (some ⟨g, 0, none⟩) n n] w (CptPost w g n n xs) := by
  have HN := Lib.hid hn
  have HI := Lib.hid hI
  have hgl := hI.lt
  clear hn hI
  by_cases h2 : n < 2
  · obtain rfl : n = 1 := by omega
    have HC : Hid (cpt xs = xs) := by
      have := cpt_one xs
      rwa [List.take_of_length_le (by rw [HN.out]; omega)] at this
    go_enter Tryz.func28, Tryz.ntmps28
    go_wp2
    go_ret
    refine ⟨xs, ?_, HI.out, ?_, Ch.refl _ _⟩
    · rw [HC.out, HN.out]; rfl
    · rw [HC.out, List.take_length]
  · have h2' : ¬ (n : Int) < 2 := by omega
    go_enter Tryz.func28, Tryz.ntmps28
    go_wp2
    go_loopw [3, 4, 5, 10, 11, 12, 13, 14, 15, 16, 17, 18, 19, 20, 21, 22, 23, 24, 25, 26, 27, 28, 29, 30, 31, 32, 33, 34, 35, 36, 37, 38, 39, 40, 41, 42, 43, 44, 45, 46, 47, 48, 49, 50, 51, 52, 53, 54, 55, 56, 57, 58, 59, 2] (fun i _ _ _ _ _ _ _ _ _ _ _ _ _ _ _ _ _ _ _ _ _ _ _ _ _ _ _ _ _ _ _ _ _ _ _ _ _ _ _ _ _ _ _ _ _ _ _ _ _ _ _ _ _ wr => ∃ k m : Nat, 1 ≤ k ∧ k ≤ n ∧ i = .int .i64 k ∧ cpt (xs.take k) = xs.take k ∧ wr = w.drewN m) (fun i _ _ _ _ _ _ _ _ _ _ _ _ _ _ _ _ _ _ _ _ _ _ _ _ _ _ _ _ _ _ _ _ _ _ _ _ _ _ _ _ _ _ _ _ _ _ _ _ _ _ _ _ _ _ => n - (intOf i).toNat)
    case atStart => exact ⟨1, 0, by omega, by omega, rfl, cpt_one xs, rfl⟩
    case round =>
      obtain ⟨k, m, hk1, hk, rfl, hcp, rfl⟩ := hrel
      have HCP := Lib.hid hcp
      clear hcp
      by_cases hlt : k < n
      · obtain ⟨j, rfl⟩ : ∃ j, k = j + 1 := ⟨k - 1, by omega⟩
        obtain ⟨x1, hx1⟩ : ∃ x, xs[j + 1]? = some x := ⟨xs[j + 1]'(by rw [HN.out]; exact hlt), List.getElem?_eq_getElem _⟩
        obtain ⟨x0, hx0⟩ : ∃ x, xs[j]? = some x := ⟨xs[j]'(by rw [HN.out]; omega), List.getElem?_eq_getElem _⟩
        obtain ⟨W, hW⟩ : ∃ W, w.drewN m = W := ⟨_, rfl⟩
        have HIW : Hid (IB .u64 34 W g xs) := by show IB _ _ _ _ _; rw [← hW]; exact HI.out.drewN m
        have HBW : Hid (Ch (At g) w W) := by show Ch _ _ _; rw [← hW]; exact (Ch.refl _ _).drewN m
        have c0 : W.cell? ⟨g, j, none⟩ = some (.int .u64 x0) := by
          rw [HIW.out.cell (by rw [HN.out]; omega)]
          rw [List.getElem?_eq_getElem (by rw [HN.out]; omega)] at hx0
          injection hx0 with hx0
          rw [hx0]
        have c1 : W.cell? ⟨g, j + 1, none⟩ = some (.int .u64 x1) := by
          rw [HIW.out.cell (by rw [HN.out]; omega)]
          rw [List.getElem?_eq_getElem (by rw [HN.out]; omega)] at hx1
          injection hx1 with hx1
          rw [hx1]
        have hgW : g < W.heap.size := HIW.out.lt
        have q1 : ((j + 1 : Nat) : Int) = (j : Int) + 1 := by omega
        have q2 : (j : Int) + 1 - 1 = (j : Int) := by omega
        have q3 : IntKind.i64.wrap ((j : Int) + 1 - 1) = (j : Int) := by rw [q2]; exact IntWalk.i64_in _ (by omega)
        have q4 : ((j : Int) + 1).toNat = j + 1 := by omega
        have HX1 := Lib.hid hx1
        have HX0 := Lib.hid hx0
        have hlt' : (j : Int) + 1 < (n : Int) := by omega
        rw [hW]
        have HW := Lib.hid hW
        clear hW hx1 hx0
        rw [q1]
        by_cases he : x1 = x0
        · subst he
          have he' : (x1 == x1) = true := by simp
          have HI0 : Hid (CptIn w g n xs (j + 2) (j + 1) W) := by
            show CptIn _ _ _ _ _ _ _
            have hlj : j + 1 < xs.length := by rw [HN.out]; exact hlt
            have e : cpt (xs.take (j + 2)) = xs.take (j + 1) := by
              rw [cpt_eq xs j hlj (by
                have a := HX1.out; have b := HX0.out
                rw [List.getElem?_eq_getElem (by omega)] at a b
                injection a with a; injection b with b; rw [a, b])]
              exact HCP.out
            exact ⟨xs, HIW.out, HN.out, by rw [e], by rw [e, List.length_take]; omega, by omega, fun _ _ => rfl, HBW.out⟩
          go_upto_region 6 with (fail)
          go_quiet (fail)
          go_wp2
          have HI1 := Lib.hid (HI0.out.keep nq)
          clear HI0 c0 c1 HIW HBW HX1 HX0 HW he' hgW q1 q2 q3 q4
          obtain ⟨W1, hW1⟩ : ∃ W1, W.drewN nq = W1 := ⟨_, rfl⟩
          rw [hW1] at HI1 ⊢
          clear hW1
          go_loopw [5, 3, 29, 30, 31, 32, 33, 34, 35, 36, 37, 38, 39, 40, 41, 42, 43, 44, 45, 46, 47, 48, 49, 50, 51, 52, 53] (fun a b _ _ _ _ _ _ _ _ _ _ _ _ _ _ _ _ _ _ _ _ _ _ _ _ _ wr => ∃ k2 kk : Nat, 1 ≤ k2 ∧ j + 1 + k2 ≤ n ∧ a = .int .i64 k2 ∧ b = .int .i64 kk ∧ CptIn w g n xs (j + 1 + k2) kk wr) (fun a _ _ _ _ _ _ _ _ _ _ _ _ _ _ _ _ _ _ _ _ _ _ _ _ _ _ _ => n - (intOf a).toNat)
          case atStart => exact ⟨1, j + 1, by omega, by omega, rfl, by go_num, HI1.out⟩
          case round =>
            obtain ⟨k2, kk, hk2, hk3, rfl, rfl, hIn⟩ := hrel
            have HIn := Lib.hid hIn
            obtain ⟨ys, hI2, hyl, htk, hkl, hkp, hint, hCh⟩ := hIn
            have hgr := hI2.lt
            obtain ⟨e, rfl⟩ : ∃ e, k2 = e + 1 := ⟨k2 - 1, by omega⟩
            have q1 : ((e + 1 : Nat) : Int) = (e : Int) + 1 := by omega
            have q2 : (e : Int) + 1 - 1 = (e : Int) := by omega
            have q3 : IntKind.i64.wrap ((e : Int) + 1 - 1) = (e : Int) := by rw [q2]; exact IntWalk.i64_in _ (by omega)
            have q4 : ((e : Int) + 1).toNat = e + 1 := by omega
            by_cases hl2 : j + 1 + (e + 1) < n
            · have hl2' : (e : Int) + 1 < ((n - (j + 1) : Nat) : Int) := by omega
              have hl3 : e + 1 < n - (j + 1) := by omega
              have hl4 : e < n - (j + 1) := by omega
              obtain ⟨y1, hy1⟩ : ∃ x, xs[j + 1 + (e + 1)]? = some x := ⟨xs[j + 1 + (e + 1)]'(by rw [HN.out]; exact hl2), List.getElem?_eq_getElem _⟩
              obtain ⟨y0, hy0⟩ : ∃ x, xs[j + 1 + e]? = some x := ⟨xs[j + 1 + e]'(by rw [HN.out]; omega), List.getElem?_eq_getElem _⟩
              have c1 : wr.cell? ⟨g, j + 1 + (e + 1), none⟩ = some (.int .u64 y1) := by
                have := hint (j + 1 + (e + 1)) (by omega)
                rw [hy1, List.getElem?_eq_getElem (by omega)] at this
                rw [hI2.cell (by omega)]; injection this with this; rw [this]
              have c0 : wr.cell? ⟨g, j + 1 + e, none⟩ = some (.int .u64 y0) := by
                have := hint (j + 1 + e) (by omega)
                rw [hy0, List.getElem?_eq_getElem (by omega)] at this
                rw [hI2.cell (by omega)]; injection this with this; rw [this]
              obtain ⟨yk, ck⟩ : ∃ v, wr.cell? ⟨g, kk, none⟩ = some v := ⟨_, hI2.cell (by omega)⟩
              have fk := hI2.frozen kk
              have hkn : kk < n := by omega
              have HY1 := Lib.hid hy1
              have HY0 := Lib.hid hy0
              rw [q1]
              clear hint htk hkl hI2 hyl hCh hkp hy1 hy0
              by_cases hne : y1 = y0
              · subst hne
                have hb : (y1 != y1) = false := by simp
                go_upto_region 11 with (fail)
                go_quiet (fail)
                go_wp2
                refine ⟨⟨e + 2, kk, by omega, by omega, by go_num, rfl, ?_⟩, by simp [intOf]; omega⟩
                have := (HIn.out.keep nq).skip (p := j + 1 + e) HN.out hl2 (HY1.out.trans HY0.out.symm)
                exact this
              · have hb : (y1 != y0) = true := by simpa using hne
                go_upto_region 11 with (fail)
                go_quiet (fail)
                go_wp2
                refine ⟨⟨e + 2, kk + 1, by omega, by omega, by go_num, by go_num, ?_⟩, by simp [intOf]; omega⟩
                have := (HIn.out.keep nq).take (p := j + 1 + e) HN.out hl2 y1 HY1.out (by rw [show j + 1 + e + 1 = j + 1 + (e + 1) by omega, HY1.out, HY0.out]; simpa using hne)
                exact this
            · obtain rfl : n = j + 1 + (e + 1) := by omega
              have hl2' : ¬ (e : Int) + 1 < ((j + 1 + (e + 1) - (j + 1) : Nat) : Int) := by omega
              have hkn : kk < j + 1 + (e + 1) := by omega
              have hkn' : ¬ ((j + 1 + (e + 1) : Nat) : Int) < (kk : Int) := by omega
              have hkn2 : ¬ j + 1 + (e + 1) < kk := by omega
              have hkn3 : ¬ j + 1 + (e + 1) = kk := by omega
              obtain ⟨w2, hr2, hI3, hC3⟩ := run_clear_ints (P := Tryz.prog) wr 27 0 34 .u64 34 Tryz.underlying27 (by kernel_rfl) g kk (j + 1 + (e + 1) - kk) (j + 1 + (e + 1) - kk) ys hI2 (by omega) (by omega)
              have HR2 := Lib.hid hr2
              have HI3 := Lib.hid hI3
              have HC3 := Lib.hid hC3
              have HF : Hid (kk = (cpt xs).length ∧ ys.take kk = cpt xs) := by
                show _ ∧ _
                have ex : xs.take (j + 1 + (e + 1)) = xs := List.take_of_length_le (by rw [HN.out]; omega)
                rw [ex] at htk hkl
                exact ⟨hkl, htk⟩
              have HCh := Lib.hid hCh
              have hyl' : kk ≤ ys.length := by omega
              clear hint htk hkl hI2 hyl hCh hr2 hI3 hC3
              rw [q1]
              go_wp2
              rw [HR2.out]
              go_wp2
              go_ret
              refine ⟨_, ?_, HI3.out, ?_, HCh.out.trans HC3.out (fun _ h _ => h)⟩
              · rw [← HF.out.1]; rfl
              · rw [← HF.out.1, ← HF.out.2]
                unfold splice
                rw [List.take_append_of_le_length (by rw [List.length_take]; omega), List.take_take, Nat.min_self]
        · have he' : (x1 == x0) = false := by simpa using he
          go_upto_region 6 with (fail)
          go_quiet (fail)
          go_wp2
          refine ⟨⟨j + 2, m + nq, by omega, by omega, by go_num, ?_, by rw [← HW.out, World.drewN_drewN]⟩, by simp [intOf]; omega⟩
          have hlj : j + 1 < xs.length := by rw [HN.out]; exact hlt
          have a := HX1.out
          have b := HX0.out
          rw [List.getElem?_eq_getElem (by omega)] at a b
          injection a with a
          injection b with b
          rw [cpt_ne xs j hlj (by rw [a, b]; exact he), HCP.out, ← List.take_succ_eq_append_getElem hlj]
      · obtain rfl : k = n := by omega
        go_wp2
        go_ret
        have hE : cpt xs = xs := by have := HCP.out; rwa [List.take_of_length_le (by rw [HN.out]; omega)] at this
        exact ⟨xs, by rw [hE, HN.out]; rfl, HI.out.drewN m, by rw [hE, List.take_length], (Ch.refl _ _).drewN m⟩
end Go.Proofs.YtlbgmoijepknbaaGreat

namespace Go.Proofs.YtlbgmoijepknbaaGreat
open Go.RowKit
set_option linter.unusedVariables false

def startOf (off : Int) : Int := off - off % 64
theorem memStart (w : World) (off : Int) (h : 0 ≤ off ∧ off < 18446744073709551616) : Calls Tryz.prog 26 #[.int .u64 off] w fun e w' => e = .returned (.int .u64 (startOf off)) ∧ w = w' := by
  obtain ⟨h1, h2⟩ := h
  have e1 : IntKind.u64.wrap (off - off % 64) = off - off % 64 := IntWalk.u64_in _ (by omega)
  unfold startOf
  go_enter Tryz.func26, Tryz.ntmps26
  go_wp2
  go_ret
  exact ⟨rfl, rfl⟩

theorem info_instr : (Tryz.prog.info? 102).map (fun i => (i.zero, i.size, i.bytes)) = some (some (.agg #[.int .u8 0, .int .u64 0, .int .u64 0]), 3, 24) := by kernel_rfl

/-- make of an empty slice of words with room for n. -/
theorem run_make_room {P : Program} (t e : TypeId) (n : Nat) (ht : P.underlying t = some (.slice e)) (hinfo : (P.info? e).map (fun i => (i.zero, i.size, i.bytes)) = some (some (.int .u64 0), 1, 8)) (hn : n ≤ 1000000) (w : World) :
    (Instr.makeSlice t (.int .i64 0) (.int .i64 (n : Int))).run P w = .ok (.slice (some ⟨w.heap.size, 0, none⟩) 0 n) (w.alloc (.cells (ia .u64 (List.replicate n (0 : Int))) e)) := by
  cases hi : P.info? e with
  | none => rw [hi] at hinfo; cases hinfo
  | some i =>
    rw [hi] at hinfo
    simp only [Option.map_some, Option.some.injEq, Prod.mk.injEq] at hinfo
    obtain ⟨hz, hs, hb⟩ := hinfo
    have hr := run_make (P := P) w t e i (.int .u64 0) ht hi hz .i64 .i64 0 n (by omega) (by omega) (by rw [hb]; omega) (by omega)
    rw [hr, hs]
    simp only [Int.toNat_natCast, Nat.mul_one, Int.toNat_zero]
    congr 3
    congr 1
    simp only [madeCells, Value.cells, ia, List.map_replicate]
    apply Array.ext
    · simp
    · intro i h1 h2
      simp [Nat.mod_one]
/-- append of one word to a slice with room. -/
theorem wpList_append_ib {P : Program} {w : World} {ops : Array Oper} {rest : List Oper} {o : Oper} {a : Act} {Q : Exit → Act → World → Prop} (hgd : o.guard = none) (s x : Operand) (t : TypeId)
    (ho : o.op = .call { callee := .builtin .append, args := #[s, x], argTypes := #[t, t] }) (e : TypeId) (ht : P.underlying t = some (.slice e)) (hinfo : (P.info? e).map (fun i => (i.zero, i.size, i.bytes)) = some (some (.int .u64 0), 1, 8))
    (g k c : Nat) (ad : Addr) (d : Nat) (v : Int) (xs : List Int) (hse : a.eval s = .slice (some ⟨g, 0, none⟩) k c) (hxe : a.eval x = .slice (some ad) 1 d) (hI : IB .u64 e w g xs) (hk : k < c) (hc : c ≤ xs.length) (hv : w.cell? (ad.add 0) = some (.int .u64 v))
    (h : wpList P ops Q rest (a.put o.dst (.slice (some ⟨g, 0, none⟩) (k + 1) c)) (w.setCell ⟨g, k, none⟩ (.int .u64 v))) : wpList P ops Q (o :: rest) a w := by
  refine wpList_plain hgd fun K hK => ?_
  cases hi : P.info? e with
  | none => rw [hi] at hinfo; cases hinfo
  | some i =>
    rw [hi] at hinfo
    simp only [Option.map_some, Option.some.injEq, Prod.mk.injEq] at hinfo
    obtain ⟨hz, hs, hb⟩ := hinfo
    have hrun := run_append_room_cells (P := P) w t o.type e i ht hi g 0 k c ad 1 d [.int .u64 v] (by rw [hs]; rfl) (fun j u hj => by
        cases j with
        | zero => simp at hj; subst hj; exact hv
        | succ j => simp at hj) (fun u hu => by simp at hu; subst hu; rfl) (by omega)
      (fun j hj => by
        obtain rfl : j = 0 := by simpa using hj
        rw [hs, show 0 + k * 1 + 0 = k by omega, hI.cell (by omega)]; rfl) (fun j hj => hI.frozen _)
    have e1 : w.setCells g (0 + k * i.size) [.int .u64 v] = w.setCell ⟨g, k, none⟩ (.int .u64 v) := by rw [hs]; simp [World.setCells]
    rw [e1] at hrun
    unfold Oper.wp execOp
    simp only [ho, resolve, invoke, builtin, Sem.run_bind, Sem.run_pure, Result.andThen_ok, List.map_toArray, List.map_cons, List.map_nil, hse, hxe, hrun]
    exact hK _ _ h

/-- The stores of writes. -/
def insSt (ws : List (Int × Int)) : List Ins := ws.map fun p => (1, p.1, p.2)
def insFl (ls : List Int) : List Ins := ls.map fun l => (2, l, 0)
def starts (ws : List (Int × Int)) : List Int := ws.map fun p => startOf p.1
/-- The program of Stores. -/
def storesP (ws : List (Int × Int)) : List Ins := insSt ws ++ insFl (cpt (starts ws)) ++ [(3, 0, 0)]
theorem ins_one (a b c : Int) : ∀ u ∈ ([.int .u8 a, .int .u64 b, .int .u64 c] : List Value), u.oneCell' = true := by
  intro u hu
  simp only [List.mem_cons, List.not_mem_nil, or_false] at hu
  rcases hu with rfl | rfl | rfl <;> rfl
theorem cells_three (w : World) (e : TypeId) (a b c : Value) : ∀ (j : Nat) (u : Value), [a, b, c][j]? = some u → (w.alloc (.cells #[a, b, c] e)).cell? ((⟨w.heap.size, 0, none⟩ : Addr).add j) = some u := by
  intro j u hu
  have h1 : (⟨w.heap.size, 0, none⟩ : Addr).add j = ⟨w.heap.size, 0 + j, none⟩ := by unfold Addr.add; split <;> simp_all
  rw [h1, Nat.zero_add, (CB.new w e #[a, b, c]).cell]
  have : j = 0 ∨ j = 1 ∨ j = 2 ∨ 3 ≤ j := by omega
  rcases this with rfl | rfl | rfl | h
  · simpa using hu
  · simpa using hu
  · simpa using hu
  · rw [List.getElem?_eq_none (by simpa using h)] at hu; cases hu
/-- The lines so far, in n words. -/
def lnPad (ws : List (Int × Int)) (n k : Nat) : List Int := starts (ws.take k) ++ List.replicate (n - k) 0
theorem length_lnPad (ws : List (Int × Int)) (n k : Nat) (hw : ws.length = n) (hk : k ≤ n) : (lnPad ws n k).length = n := by simp [lnPad, starts]; omega
theorem lnPad_set (ws : List (Int × Int)) (n k : Nat) (hw : ws.length = n) (hk : k < n) : (lnPad ws n k).set k (startOf (ws[k]'(by omega)).1) = lnPad ws n (k + 1) := by
  have hkl : k < ws.length := by omega
  unfold lnPad starts
  rw [List.take_succ_eq_append_getElem hkl, List.set_append_right _ _ (by simp; omega)]
  obtain ⟨m, hm⟩ : ∃ m, n - k = m + 1 := ⟨n - k - 1, by omega⟩
  have h2 : n - (k + 1) = m := by omega
  have h3 : k - (List.map (fun p => startOf p.1) (List.take k ws)).length = 0 := by simp; omega
  rw [hm, h2, h3, List.replicate_succ, List.set_cons_zero, List.map_append]
  simp [-List.take_append_getElem]
theorem lnPad_all (ws : List (Int × Int)) (n : Nat) (hw : ws.length = n) : lnPad ws n n = starts ws := by
  unfold lnPad
  rw [List.take_of_length_le (by omega), Nat.sub_self]; simp
/-- The first loop's invariant. -/
def StoInv (w : World) (g n : Nat) (ws : List (Int × Int)) (k : Nat) (A : Option Addr) (c : Nat) (wr : World) : Prop :=
  Sl 102 3 wr A k c (pcells (insSt (ws.take k))) ∧ IB .u64 34 wr g (lnPad ws n k) ∧ Below w.heap.size w wr ∧ ∀ b, OwnB A b → w.heap.size ≤ b ∧ b ≠ g
theorem cpt_length (xs : List Int) : ∀ k, (cpt (xs.take k)).length ≤ k := by
  intro k
  induction k with
  | zero => simp [cpt]
  | succ k ih =>
    by_cases hk : k < xs.length
    · rw [List.take_succ_eq_append_getElem hk, cpt_snoc]
      split
      · omega
      · rw [List.length_append]; simp; exact ih
    · rw [List.take_of_length_le (by omega)] at ih ⊢
      omega
theorem cpt_le (xs : List Int) : (cpt xs).length ≤ xs.length := by have := cpt_length xs xs.length; rwa [List.take_length] at this
/-- The second loop's invariant. -/
def StoInv2 (w : World) (g n : Nat) (ws : List (Int × Int)) (zs cs : List Int) (j : Nat) (A : Option Addr) (c : Nat) (wr : World) : Prop :=
  Sl 102 3 wr A (n + j) c (pcells (insSt ws ++ insFl (cs.take j))) ∧ IB .u64 34 wr g zs ∧ Below w.heap.size w wr ∧ ∀ b, OwnB A b → w.heap.size ≤ b ∧ b ≠ g
def StoPost (w : World) (ps : List Ins) (e : Ending) (w' : World) : Prop :=
  ∃ A c, e = .returned (.slice A ps.length c) ∧ Sl 102 3 w' A ps.length c (pcells ps) ∧ Below w.heap.size w w' ∧ ∀ b, OwnB A b → w.heap.size ≤ b

set_option maxRecDepth 100000 in
set_option maxHeartbeats 4000000 in
theorem memStores (w : World) (A : Option Addr) (n c : Nat) (ws : List (Int × Int)) (hn : ws.length = n) (h1 : 1 ≤ n) (hm : n ≤ 12) (hS : Sl 48 2 w A n c (wcells ws)) (hr : ∀ p ∈ ws, 0 ≤ p.1 ∧ p.1 < 18446744073709551616) (hs : (starts ws).Pairwise (· ≤ ·)) :
    Calls Tryz.prog 10 #[.slice A n c] w (StoPost w (storesP ws)) := by
  have HN := Lib.hid hn
  have HS := Lib.hid hS
  have HR := Lib.hid hr
  have HSo := Lib.hid hs
  have e0 : ((n : Int) == 0) = false := by simp; omega
  have hmk : ∀ W : World, (Instr.makeSlice 27 (.int .i64 0) (.int .i64 (n : Int))).run Tryz.prog W = .ok (.slice (some ⟨W.heap.size, 0, none⟩) 0 n) (W.alloc (.cells (ia .u64 (List.replicate n 0)) 34)) := run_make_room 27 34 n Tryz.underlying27 info_u64 (by omega)
  clear hn hS hr hs
  go_enter Tryz.func10, Tryz.ntmps10
  go_wp2
  have HI0 : Hid (StoInv w w.heap.size n ws 0 none 0 (w.alloc (.cells (ia .u64 (List.replicate n 0)) 34))) := by
    refine ⟨Sl.nil, ?_, bl_alloc (Below.refl _ _) _, by simp [OwnB]⟩
    have : lnPad ws n 0 = List.replicate n 0 := by simp [lnPad, starts]
    rw [this]; exact IB.new _ _
  obtain ⟨g, hg⟩ : ∃ g, w.heap.size = g := ⟨_, rfl⟩
  obtain ⟨W, hW⟩ : ∃ W, w.alloc (.cells (ia .u64 (List.replicate n 0)) 34) = W := ⟨_, rfl⟩
  have HI1 : Hid (StoInv w g n ws 0 none 0 W) := by show StoInv _ _ _ _ _ _ _ _; rw [← hg, ← hW]; exact HI0.out
  have hgw : w.heap.size ≤ g := by omega
  rw [hg, hW]
  clear hmk hg hW HI0
  go_loopw [17, 3, 4, 6, 18, 19, 20, 21, 22, 23, 24, 25, 26, 27, 28, 29, 30, 31, 32, 33, 34, 35] (fun i p l _ _ _ _ _ _ _ _ _ _ _ _ _ _ _ _ _ _ _ wr => ∃ (k : Nat) (A' : Option Addr) (c' : Nat), k ≤ n ∧ i = .int .i64 k ∧ p = .slice A' k c' ∧ l = .slice (some ⟨g, 0, none⟩) k n ∧ StoInv w g n ws k A' c' wr) (fun i p l _ _ _ _ _ _ _ _ _ _ _ _ _ _ _ _ _ _ _ _ => n - (intOf i).toNat)
  case atStart => exact ⟨0, none, 0, by omega, rfl, rfl, rfl, HI1.out⟩
  case round =>
    clear HI1
    obtain ⟨k, A', c', hk, rfl, rfl, rfl, hP, hI, hB, hO⟩ := hrel
    have HP := Lib.hid hP
    have HI := Lib.hid hI
    have HB := Lib.hid hB
    have HO := Lib.hid hO
    by_cases hlt : k < n
    · have hkl : k < ws.length := by rw [HN.out]; exact hlt
      obtain ⟨gw, ow, hA, hl, c1, c2⟩ := (HS.out.keep (fun b hb => hB.block b (HS.out.lt hb))).wr hkl
      obtain ⟨⟨of, v⟩, hp⟩ : ∃ p, ws[k] = p := ⟨_, rfl⟩
      have hpp := HR.out _ (List.getElem_mem hkl)
      rw [hp] at c1 c2 hpp
      have HPP := Lib.hid hp
      have hof : 0 ≤ of ∧ of < 18446744073709551616 := hpp
      have HOF := Lib.hid hof
      subst hA
      rw [show 2 * k = k * 2 by omega] at c1 c2
      have hgn : ¬ gw = wr.heap.size := by omega
      have hgr := hI.lt
      clear hP hI hB hO hp hpp hof
      go_wp2_with (at_builtin; refine wpList_append_sl rfl (.tmp 21) (.tmp 27) 50 rfl 102 (.agg #[.int .u8 0, .int .u64 0, .int .u64 0]) 3 24 rfl (by omega) Tryz.underlying50 info_instr (by omega) A' k c' (pcells (insSt (ws.take k))) ⟨wr.heap.size + 1, 0, none⟩ 1 1 [.int .u8 1, .int .u64 of, .int .u64 v] rfl rfl (HP.out.keep (fun b hb => ((bl_alloc (bl_alloc (Below.refl _ _) _) _ : Below wr.heap.size wr _).block b (HP.out.lt hb)))) rfl (by omega) (by have := cells_three (wr.alloc (.cells #[.int .u64 of, .int .u64 v] 48)) 102 (.int .u8 1) (.int .u64 of) (.int .u64 v); simpa using this) (ins_one _ _ _) (by omega) ?_; intro A2 c2' w2 HO2 HC2 HW2 HG2; have hsz : wr.heap.size + 2 ≤ w2.heap.size := (by have := HC2.out.size; simpa using this); have hno : ∀ b, wr.heap.size ≤ b → ¬ OwnB A' b := (fun b hb ho => by have := HP.out.lt ho; omega); have m0 : w2.cell? ⟨wr.heap.size, 0, none⟩ = some (.int .u64 of) := ((HC2.out.cells _ _ (by simp; omega) (hno _ (Nat.le_refl _))).trans (by go_simp)); have HI2 : Hid (IB .u64 34 w2 g (lnPad ws n k)) := (((HI.out.alloc _).alloc _).ch HC2.out (fun ho => (HO.out g ho).2 rfl)); have m1 : wr.heap.size < w2.heap.size := (by omega); clear hno)
      go_wp2_with (first | (go_at_call 26; refine (memStart _ of HOF.out).mono ?_; rintro e w' ⟨rfl, rfl⟩) | (at_builtin; refine wpList_append_ib rfl (.tmp 29) (.tmp 33) 27 rfl 34 Tryz.underlying27 info_u64 g k n ⟨w2.heap.size, 0, none⟩ 1 (startOf of) (lnPad ws n k) rfl rfl (HI2.out.alloc _) hlt (by rw [length_lnPad ws n k HN.out hk]; exact Nat.le_refl _) (by simp [go_sem]) ?_))
      refine ⟨⟨k + 1, A2, c2', by omega, by go_num, rfl, rfl, ?_, ?_, ?_, ?_⟩, by simp [intOf]; omega⟩
      · have hx := HO2.out
        have e1 : pcells (insSt (ws.take (k + 1))) = pcells (insSt (ws.take k)) ++ [.int .u8 1, .int .u64 of, .int .u64 v] := by
          rw [List.take_succ_eq_append_getElem hkl, HPP.out, insSt, List.map_append, pcells_append]; rfl
        rw [e1]
        refine hx.keep (fun b hb => ?_)
        have hbl := hx.lt hb
        have hbg : b ≠ g := by
          rcases HW2.out b hb with h | h
          · exact (HO.out b h).2
          · rw [h]; simp; omega
        rw [Below.heap_setCell _ _ _ _ hbg, Below.heap_alloc _ _ _ hbl]
      · have := (HI2.out.alloc (.cells #[.int .u64 (startOf of)] 34)).set k (startOf of)
        rw [← lnPad_set ws n k HN.out hlt, HPP.out]
        exact this
      · refine bl_set (bl_alloc (bl_ch (bl_alloc (bl_alloc HB.out _) _) HC2.out (fun b hb => (HO.out b hb).1)) _) hgw _
      · intro b hb
        rcases HW2.out b hb with h | h
        · exact HO.out b h
        · have := HB.out.size
          rw [h]; simp; omega
    · obtain rfl : k = n := by omega
      have hI' : IB .u64 34 wr g (starts ws) := by rw [← lnPad_all ws k HN.out]; exact hI
      have hP' : Sl 102 3 wr A' k c' (pcells (insSt ws)) := by rw [List.take_of_length_le (by rw [HN.out]; omega)] at hP; exact hP
      have hsl : (starts ws).length = k := by simp [starts, HN.out]
      have HSRT := Lib.hid (sortU wr (some ⟨g, 0, none⟩) k k (starts ws) hsl h1 hm hI'.rd0 HSo.out)
      have HCPT := Lib.hid (fun m => compactU (wr.drewN m) g k (starts ws) hsl h1 (by omega) (hI'.drewN m))
      have HP' := Lib.hid hP'
      clear hP hI hB hO hI' hP' HP HI hsl
      go_wp2_with (first | (go_at_call 27; refine HSRT.out.mono ?_; rintro e w' ⟨rfl, m, rfl⟩) | (go_at_call 28; refine (HCPT.out m).mono ?_; rintro e w3 ⟨zs, rfl, hZ, hzt, hC3⟩; have HZ := Lib.hid hZ; have HZT := Lib.hid hzt; have HC3 := Lib.hid hC3; clear hZ hzt hC3))
      have HI2 : Hid (StoInv2 w g k ws zs (cpt (starts ws)) 0 A' c' w3) := by
        refine ⟨?_, HZ.out, bl_ch (bl_drewN HB.out m) HC3.out (fun b hb => by rw [show b = g from hb]; exact hgw), HO.out⟩
        have h1 := HP'.out.keep (w' := w3) (fun b hb => HC3.out.block b (HP'.out.lt hb) (fun h => (HO.out b hb).2 h))
        simpa [insFl] using h1
      have hzl : (cpt (starts ws)).length ≤ k := by have := cpt_le (starts ws); simp [starts] at this; rw [HN.out] at this; exact this
      obtain ⟨cs, hcs⟩ : ∃ cs, cpt (starts ws) = cs := ⟨_, rfl⟩
      obtain ⟨q, hq⟩ : ∃ q, cs.length = q := ⟨_, rfl⟩
      have HCS := Lib.hid hcs
      have HQ := Lib.hid hq
      rw [hcs] at HI2 HZT hzl ⊢
      rw [hq] at HZT hzl ⊢
      clear hcs hq HSRT HCPT HZ HC3 HB HO HP'
      go_loopw [41, 3, 8, 42, 43, 44, 45, 46, 47, 48, 49, 50] (fun i p _ _ _ _ _ _ _ _ _ _ wr => ∃ (j : Nat) (A' : Option Addr) (c' : Nat), j ≤ q ∧ i = .int .i64 j ∧ p = .slice A' (k + j) c' ∧ StoInv2 w g k ws zs cs j A' c' wr) (fun i _ _ _ _ _ _ _ _ _ _ _ _ => q - (intOf i).toNat)
      case atStart => exact ⟨0, _, _, by omega, rfl, rfl, HI2.out⟩
      case round =>
        clear HI2
        obtain ⟨j, A1, c1, hj, rfl, rfl, hP, hI, hB, hO⟩ := hrel
        have HP := Lib.hid hP
        have HI := Lib.hid hI
        have HB := Lib.hid hB
        have HO := Lib.hid hO
        have hgr := hI.lt
        by_cases hjq : j < q
        · have hjl : j < cs.length := by rw [HQ.out]; exact hjq
          obtain ⟨l, hl⟩ : ∃ l, cs[j] = l := ⟨_, rfl⟩
          have hzl' : q ≤ zs.length := by have := congrArg List.length HZT.out; rw [List.length_take, HQ.out] at this; omega
          have hzj : zs[j]'(by omega) = l := by
            have h1 : (zs.take q)[j]'(by rw [List.length_take]; omega) = l := by
              have h2 := HZT.out
              simp only [h2]; exact hl
            rwa [List.getElem_take] at h1
          have cj : wr.cell? ⟨g, j, none⟩ = some (.int .u64 l) := by rw [hI.cell (by omega), hzj]
          have HL := Lib.hid hl
          have hjn : j < k := by omega
          clear hP hI hB hO hl hzj
          go_wp2_with (at_builtin; refine wpList_append_sl rfl (.tmp 45) (.tmp 48) 50 rfl 102 (.agg #[.int .u8 0, .int .u64 0, .int .u64 0]) 3 24 rfl (by omega) Tryz.underlying50 info_instr (by omega) A1 (k + j) c1 (pcells (insSt ws ++ insFl (cs.take j))) ⟨wr.heap.size, 0, none⟩ 1 1 [.int .u8 2, .int .u64 l, .int .u64 0] rfl rfl (HP.out.keep (fun b hb => Below.heap_alloc _ _ _ (HP.out.lt hb))) rfl (by omega) (cells_three wr 102 _ _ _) (ins_one _ _ _) (by omega) ?_; intro A2 c2' w2 HO2 HC2 HW2 HG2)
          refine ⟨⟨j + 1, A2, c2', by omega, by go_num, rfl, ?_, ?_, ?_, ?_⟩, by simp [intOf]; omega⟩
          · have e1 : pcells (insSt ws ++ insFl (cs.take (j + 1))) = pcells (insSt ws ++ insFl (cs.take j)) ++ [.int .u8 2, .int .u64 l, .int .u64 0] := by
              rw [List.take_succ_eq_append_getElem hjl, HL.out, insFl, List.map_append, ← List.append_assoc, pcells_append]; rfl
            rw [e1]; exact HO2.out
          · exact (HI.out.alloc _).ch HC2.out (fun ho => (HO.out g ho).2 rfl)
          · exact bl_ch (bl_alloc HB.out _) HC2.out (fun b hb => (HO.out b hb).1)
          · intro b hb
            have := HB.out.size
            rcases HW2.out b hb with h | h
            · exact HO.out b h
            · rw [h]; simp; omega
        · obtain rfl : j = q := by omega
          clear hP hI hB hO
          go_wp2_with (at_builtin; refine wpList_append_sl rfl (.tmp 51) (.tmp 53) 50 rfl 102 (.agg #[.int .u8 0, .int .u64 0, .int .u64 0]) 3 24 rfl (by omega) Tryz.underlying50 info_instr (by omega) A1 (k + j) c1 (pcells (insSt ws ++ insFl (cs.take j))) ⟨wr.heap.size, 0, none⟩ 1 1 [.int .u8 3, .int .u64 0, .int .u64 0] rfl rfl (HP.out.keep (fun b hb => Below.heap_alloc _ _ _ (HP.out.lt hb))) rfl (by omega) (cells_three wr 102 _ _ _) (ins_one _ _ _) (by omega) ?_; intro A2 c2' w2 HO2 HC2 HW2 HG2)
          go_ret
          have hE : storesP ws = insSt ws ++ insFl (cs.take j) ++ [(3, 0, 0)] := by
            rw [storesP, HCS.out, List.take_of_length_le (by rw [HQ.out]; exact Nat.le_refl _)]
          have hlen : (storesP ws).length = k + j + 1 := by
            rw [hE]; simp [insSt, insFl, HN.out, HQ.out]; omega
          refine ⟨A2, c2', ?_, ?_, ?_, ?_⟩
          · rw [hlen]; rfl
          · rw [hlen, hE, pcells_append]; exact HO2.out
          · exact bl_ch (bl_alloc HB.out _) HC2.out (fun b hb => (HO.out b hb).1)
          · intro b hb
            have := HB.out.size
            rcases HW2.out b hb with h | h
            · exact (HO.out b h).1
            · rw [h]; simp; omega
end Go.Proofs.YtlbgmoijepknbaaGreat

namespace Go.Proofs.YtlbgmoijepknbaaGreat
open Go.RowKit
set_option linter.unusedVariables false

/-- A device of n lines that is on, with those words, all persistent. -/
structure Clean (S : DevS) (n : Nat) (xs : List Int) (N : Nat) : Prop where
  good : Good S N
  nl : S.lns.length = n
  cur : S.cur = xs
  pers : S.pers = xs
  off : S.off = false
  armed : S.armed = false
  hist : ∀ (q : Nat) (l : Ln), S.lns[q]? = some l → l.hist = []
  err : ∀ j, (S.thr j).err = 0
  notes : ∀ j x, (S.thr j).notes x = none
/-- In the middle of a program of stores: those writes are stored, those lines are flushed. -/
structure Mid (S : DevS) (i n : Nat) (xs : List Int) (ws : List (Int × Int)) (ls : List Int) (N : Nat) : Prop where
  good : Good S N
  nl : S.lns.length = n
  cur : S.cur = applyW xs ws
  pers : S.pers = xs
  off : S.off = false
  armed : S.armed = false
  hist : ∀ (q : Nat) (l : Ln), S.lns[q]? = some l → l.hist = ws.filter fun p => decide (p.1 / 64 = (q : Int))
  err : ∀ j, (S.thr j).err = 0
  other : ∀ j, j ≠ i → ∀ x, (S.thr j).notes x = none
  notes : ∀ (q : Nat), (64 * (q : Int) ∈ ls ∧ q < n) ∨ (S.thr i).notes (q : Int) = none
  note : ∀ (q : Nat) (l : Ln), S.lns[q]? = some l → 64 * (q : Int) ∈ ls → (S.thr i).notes (q : Int) = some (l.done + (l.hist.length : Int))

section
variable {S : DevS} {i n N : Nat} {xs : List Int} {ws : List (Int × Int)} {ls : List Int}
theorem Clean.mid (h : Clean S n xs N) (i : Nat) : Mid S i n xs [] [] N :=
  ⟨h.good, h.nl, h.cur, h.pers, h.off, h.armed, fun q l hl => by rw [h.hist q l hl]; rfl, h.err, fun j _ x => h.notes j x, fun q => .inr (h.notes i q), fun q l _ hm => by cases hm⟩
theorem cnt_ok (ho : S.off = false) (ha : S.armed = false) : S.cntB true = true ∧ S.cnt i true = { S with exec := IntKind.u64.wrap (S.exec + 1) } := by
  simp [DevS.cntB, DevS.cnt, DevS.onB, ho, ha]
theorem store_ok (ho : S.off = false) (ha : S.armed = false) {k : Nat} (hk : k < 8 * S.lns.length) (v : Int) : S.store i (8 * (k : Int)) v = ({ S with exec := IntKind.u64.wrap (S.exec + 1) } : DevS).write k v := by
  have hw : S.wordB (8 * (k : Int)) = true := by unfold DevS.wordB; simp; omega
  have hq : ((8 * (k : Int)) / 8).toNat = k := by omega
  unfold DevS.store
  rw [hw, (cnt_ok (i := i) ho ha).1, if_pos rfl, hq, (cnt_ok ho ha).2]
theorem Mid.store (h : Mid S i n xs ws [] N) {k : Nat} (hk : k < 8 * n) (v : Int) : Mid (S.store i (8 * (k : Int)) v) i n xs (ws ++ [(8 * (k : Int), v)]) [] (N + 1) := by
  have hG := h.good.store i (8 * (k : Int)) v (by omega)
  have hE := store_ok (i := i) h.off h.armed (k := k) (by rw [h.nl]; exact hk) v
  rw [hE] at hG ⊢
  refine ⟨hG, by simp [DevS.write, h.nl], ?_, h.pers, h.off, h.armed, ?_, h.err, h.other, fun q => .inr (by have := h.notes q; simp only [List.not_mem_nil, false_and, false_or] at this; exact this), fun q l _ hm => by cases hm⟩
  · rw [applyW_snoc, show ((8 * (k : Int)) / 8).toNat = k by omega]
    show S.cur.set k v = _
    rw [h.cur]
  · intro q l hl
    have hlt : q < S.lns.length := by
      have := (List.getElem?_eq_some_iff.1 hl).1
      simpa [DevS.write] using this
    have h0 := h.hist q S.lns[q] (by simp [hlt])
    simp only [DevS.write, List.getElem?_modify, List.getElem?_eq_getElem hlt] at hl
    rw [List.filter_append]
    by_cases hq : k / 8 = q
    · simp [hq] at hl
      subst hl
      have : (8 * (k : Int)) / 64 = (q : Int) := by omega
      simp [h0, this]
    · simp [hq] at hl
      subst hl
      have : ¬ (8 * (k : Int)) / 64 = (q : Int) := by omega
      simp [h0, this]
theorem Mid.flush (h : Mid S i n xs ws ls N) {q : Nat} (hq : q < n) (hN : N < 1000000) : Mid (S.flush i (64 * (q : Int))) i n xs ws (ls ++ [64 * (q : Int)]) (N + 1) := by
  have hG := h.good.flush i (64 * (q : Int)) (by omega) (by omega)
  have hin : S.inB (64 * (q : Int)) = true := by unfold DevS.inB; simp [h.nl]; omega
  have hE : S.flush i (64 * (q : Int)) = ({ S with exec := IntKind.u64.wrap (S.exec + 1) } : DevS).note i q := by
    unfold DevS.flush
    rw [hin, (cnt_ok (i := i) h.off h.armed).1, if_pos rfl, (cnt_ok h.off h.armed).2, show ((64 * (q : Int)) / 64).toNat = q by omega]
  rw [hE] at hG ⊢
  have hql : q < S.lns.length := by rw [h.nl]; exact hq
  obtain ⟨a1, a2, _⟩ := h.good.ln q S.lns[q] (by simp [hql])
  have hw : IntKind.u64.wrap (S.lns[q].done + (S.lns[q].hist.length : Int)) = S.lns[q].done + (S.lns[q].hist.length : Int) := IntWalk.u64_in _ (by omega)
  refine ⟨hG, h.nl, h.cur, h.pers, h.off, h.armed, h.hist, fun j => ?_, fun j hj x => ?_, fun r => ?_, fun r l hl hm => ?_⟩
  · by_cases hj : j = i
    · subst hj; simp [DevS.note, h.err]
    · simp [DevS.note, hj, h.err]
  · simp [DevS.note, hj, h.other j hj x]
  · by_cases hr : r = q
    · subst hr; left; exact ⟨by simp, hq⟩
    · have hr' : ¬ (r : Int) = (q : Int) := by omega
      rcases h.notes r with h1 | h1
      · left; exact ⟨by simp [h1.1], h1.2⟩
      · right; simp [DevS.note, hr', h1]
  · have hl1 : S.lns[r]? = some l := hl
    by_cases hr : r = q
    · subst hr
      have : S.lns[r] = l := by rw [List.getElem?_eq_getElem hql] at hl1; injection hl1
      subst this
      simp [DevS.note, hql, hw]
    · have hr' : ¬ (r : Int) = (q : Int) := by omega
      simp only [List.mem_append, List.mem_singleton] at hm
      rcases hm with hm | hm
      · simp [DevS.note, hr', h.note r l hl1 hm]
      · exfalso; omega
theorem applyW_filter (j : Nat) : ∀ (ws : List (Int × Int)) (xs : List Int), (∀ p ∈ ws, 0 ≤ p.1) → (applyW xs (ws.filter fun p => decide (p.1 / 64 = ((j / 8 : Nat) : Int))))[j]? = (applyW xs ws)[j]? := by
  intro ws
  induction ws with
  | nil => intro xs _; rfl
  | cons p ws ih =>
    intro xs hp
    have hp0 := hp p (by simp)
    have ih' := fun xs => ih xs (fun q hq => hp q (by simp [hq]))
    by_cases hd : p.1 / 64 = ((j / 8 : Nat) : Int)
    · rw [List.filter_cons_of_pos (by simpa using hd)]
      exact ih' _
    · rw [List.filter_cons_of_neg (by simpa using hd), ih' xs]
      show _ = (applyW (xs.set (p.1 / 8).toNat p.2) ws)[j]?
      refine applyW_congr _ j _ _ (by simp) ?_
      rw [List.getElem?_set, if_neg (by omega)]
theorem Mid.fence (h : Mid S i n xs ws ls N) (hi : i < 8) (hN : N < 1000000) (hw : ∀ p ∈ ws, 0 ≤ p.1 ∧ startOf p.1 ∈ ls) : Clean (S.fence i) n (applyW xs ws) (N + 1) := by
  have hG := (h.good.fence hi (by omega)).mono (Nat.le_succ N)
  obtain ⟨c1, c2⟩ := cnt_ok (i := i) h.off h.armed
  have hE : S.fence i = ((({ S with exec := IntKind.u64.wrap (S.exec + 1) } : DevS).upto (({ S with exec := IntKind.u64.wrap (S.exec + 1) } : DevS).due i))).clearN i := by
    unfold DevS.fence; rw [c1, if_pos rfl, c2]
  rw [hE] at hG ⊢
  obtain ⟨T, hT⟩ : ∃ T : DevS, T = { S with exec := IntKind.u64.wrap (S.exec + 1) } := ⟨_, rfl⟩
  have hTl : T.lns = S.lns := by rw [hT]
  have hTt : T.thr = S.thr := by rw [hT]
  have hTp : T.pers = xs := by rw [hT]; exact h.pers
  have hTc : T.cur = applyW xs ws := by rw [hT]; exact h.cur
  rw [← hT] at hG ⊢
  have hdue : ∀ (q : Nat) (l : Ln), S.lns[q]? = some l → T.due i q = l.hist.length := by
    intro q l hl
    obtain ⟨a1, a2, _⟩ := h.good.ln q l hl
    unfold DevS.due
    rw [hTt, hTl, hl]
    rcases h.notes q with hm | hm
    · rw [h.note q l hl hm.1]; simp; omega
    · rw [hm]
      have : l.hist = [] := by
        rw [h.hist q l hl, List.filter_eq_nil_iff]
        intro p hp hd
        have hd' : p.1 / 64 = (q : Int) := by simpa using hd
        have hs := (hw p hp).2
        unfold startOf at hs
        have : p.1 - p.1 % 64 = 64 * (q : Int) := by omega
        rw [this] at hs
        rw [h.note q l hl hs] at hm
        cases hm
      rw [this]; rfl
  have hlen : (T.upto (T.due i)).pers.length = xs.length := by rw [(length_upto _).1, hTp]
  refine ⟨hG, ?_, hTc, ?_, by rw [hT]; exact h.off, by rw [hT]; exact h.armed, ?_, fun j => ?_, fun j x => ?_⟩
  · show (T.upto (T.due i)).lns.length = n
    rw [(length_upto _).2, hTl]; exact h.nl
  · show (T.upto (T.due i)).pers = _
    apply List.ext_getElem?
    intro j
    by_cases hj : j < xs.length
    · rw [upto_pers _ j (by rw [hTp]; exact hj), hTp, hTl]
      have hjl : j / 8 < S.lns.length := by
        have := h.good.np
        rw [h.pers] at this
        omega
      obtain ⟨l, hl⟩ : ∃ l, S.lns[j / 8]? = some l := ⟨_, List.getElem?_eq_getElem hjl⟩
      rw [hl, hdue _ l hl]
      simp only [Option.map_some, Option.getD_some, List.take_length]
      rw [h.hist _ l hl]
      exact applyW_filter j ws xs (fun p hp => (hw p hp).1)
    · rw [List.getElem?_eq_none (by rw [hlen]; omega), List.getElem?_eq_none (by rw [length_applyW]; omega)]
  · intro q l hl
    have hl : (T.upto (T.due i)).lns[q]? = some l := hl
    rw [upto_ln, hTl] at hl
    obtain ⟨l0, h0, rfl⟩ := Option.map_eq_some_iff.1 hl
    simp [hdue q l0 h0]
  · show (((T.upto (T.due i)).clearN i).thr j).err = 0
    have e1 : ((T.upto (T.due i)).thr) = S.thr := hTt
    by_cases hj : j = i
    · subst hj; simp [DevS.clearN, e1, h.err]
    · simp [DevS.clearN, hj, e1, h.err]
  · show (((T.upto (T.due i)).clearN i).thr j).notes x = none
    have e1 : ((T.upto (T.due i)).thr) = S.thr := hTt
    by_cases hj : j = i
    · subst hj; simp [DevS.clearN]
    · simp [DevS.clearN, hj, e1, h.other j hj x]

theorem Mid.stores (hi : i < 8) : ∀ (vs : List (Int × Int)) {S : DevS} {ws : List (Int × Int)} {N : Nat}, Mid S i n xs ws [] N → (∀ p ∈ vs, ∃ k : Nat, p.1 = 8 * (k : Int) ∧ k < 8 * n) → Mid (S.runP i (insSt vs)) i n xs (ws ++ vs) [] (N + vs.length) := by
  intro vs
  induction vs with
  | nil => intro S ws N h _; simpa [insSt, DevS.runP] using h
  | cons p vs ih =>
    intro S ws N h hp
    obtain ⟨k, hk1, hk2⟩ := hp p (by simp)
    have h1 := h.store hk2 p.2
    have h2 := ih h1 (fun q hq => hp q (by simp [hq]))
    have e : (8 * (k : Int), p.2) = p := by rw [← hk1]
    rw [e, ← hk1] at h2
    simp only [List.append_assoc, List.singleton_append] at h2
    simp only [List.length_cons]
    rw [show N + (vs.length + 1) = N + 1 + vs.length by omega]
    exact h2
theorem Mid.flushes (hi : i < 8) : ∀ (ks : List Int) {S : DevS} {ls : List Int} {N : Nat}, Mid S i n xs ws ls N → N + ks.length < 1000000 → (∀ l ∈ ks, ∃ q : Nat, l = 64 * (q : Int) ∧ q < n) → Mid (S.runP i (insFl ks)) i n xs ws (ls ++ ks) (N + ks.length) := by
  intro ks
  induction ks with
  | nil => intro S ls N h _ _; simpa [insFl, DevS.runP] using h
  | cons l ks ih =>
    intro S ls N h hN hp
    simp only [List.length_cons] at hN ⊢
    obtain ⟨q, rfl, hq⟩ := hp l (by simp)
    have h1 := h.flush hq (by omega)
    have h2 := ih h1 (by omega) (fun q hq => hp q (by simp [hq]))
    simp only [List.append_assoc, List.singleton_append] at h2
    rw [show N + (ks.length + 1) = N + 1 + ks.length by omega]
    exact h2
theorem mem_cpt (ys : List Int) : ∀ k, ∀ x, x ∈ cpt (ys.take k) ↔ x ∈ ys.take k := by
  intro k
  induction k with
  | zero => intro x; simp [cpt]
  | succ k ih =>
    intro x
    by_cases hk : k < ys.length
    · rw [List.take_succ_eq_append_getElem hk, cpt_snoc]
      split
      · rename_i hl
        rw [List.mem_append, ih x]
        constructor
        · exact fun h => .inl h
        · rintro (h | h)
          · exact h
          · simp at h
            subst h
            exact (ih _).1 (List.mem_of_getLast? hl)
      · rw [List.mem_append, List.mem_append, ih x]
    · rw [List.take_of_length_le (by omega)]
      have := ih x
      rwa [List.take_of_length_le (by omega)] at this
theorem mem_cpt' (ys : List Int) (x : Int) : x ∈ cpt ys ↔ x ∈ ys := by have := mem_cpt ys ys.length x; rwa [List.take_length] at this
theorem runP_append (S : DevS) (i : Nat) (ps qs : List Ins) : S.runP i (ps ++ qs) = (S.runP i ps).runP i qs := by simp [DevS.runP]
/-- The program of Stores makes the writes persistent. -/
theorem Clean.stores (h : Clean S n xs N) (hi : i < 8) (vs : List (Int × Int)) (hv : ∀ p ∈ vs, ∃ k : Nat, p.1 = 8 * (k : Int) ∧ k < 8 * n) (hN : N + (storesP vs).length < 1000000) : Clean (S.runP i (storesP vs)) n (applyW xs vs) (N + (storesP vs).length) := by
  have hl : (storesP vs).length = vs.length + (cpt (starts vs)).length + 1 := by simp [storesP, insSt, insFl]; omega
  rw [hl] at hN ⊢
  have h1 := Mid.stores hi vs (h.mid i) hv
  rw [List.nil_append] at h1
  have h2 := Mid.flushes hi (cpt (starts vs)) h1 (by omega) (fun l hl => by
    rw [mem_cpt'] at hl
    obtain ⟨p, hp, rfl⟩ := List.mem_map.1 hl
    obtain ⟨k, hk1, hk2⟩ := hv p hp
    refine ⟨k / 8, ?_, by omega⟩
    unfold startOf; omega)
  rw [List.nil_append] at h2
  have h3 := h2.fence hi (by omega) (fun p hp => by
    obtain ⟨k, hk1, hk2⟩ := hv p hp
    exact ⟨by omega, by rw [mem_cpt']; exact List.mem_map.2 ⟨p, hp, rfl⟩⟩)
  unfold storesP
  rw [runP_append, runP_append]
  rw [show N + (vs.length + (cpt (starts vs)).length + 1) = N + vs.length + (cpt (starts vs)).length + 1 by omega]
  exact h3
end
end Go.Proofs.YtlbgmoijepknbaaGreat

namespace Go.Proofs.YtlbgmoijepknbaaGreat
open Go.RowKit
set_option linter.unusedVariables false

/-- All words fit. -/
def Fits (ws : List Int) : Prop := ∀ x ∈ ws, 0 ≤ x ∧ x < 18446744073709551616
def byteAt (ws : List Int) (i : Nat) : Int := ws[i / 8]?.getD 0 / 2 ^ (i % 8 * 8) % 256
/-- The little-endian bytes of words. -/
def bytesL (ws : List Int) : List Int := (List.range (8 * ws.length)).map (byteAt ws)
theorem length_bytesL (ws : List Int) : (bytesL ws).length = 8 * ws.length := by simp [bytesL]
theorem bytesL_getq (ws : List Int) (i : Nat) (h : i < 8 * ws.length) : (bytesL ws)[i]? = some (byteAt ws i) := by
  simp [bytesL, h]
theorem bytesL_get (ws : List Int) (i : Nat) (h : i < (bytesL ws).length) : (bytesL ws)[i] = byteAt ws i := by
  simp [bytesL]
theorem byteAt_range (ws : List Int) (i : Nat) : 0 ≤ byteAt ws i ∧ byteAt ws i < 256 := by unfold byteAt; omega
theorem Fits.getD {ws : List Int} (h : Fits ws) (i : Nat) : 0 ≤ ws[i]?.getD 0 ∧ ws[i]?.getD 0 < 18446744073709551616 := by
  by_cases hi : i < ws.length
  · rw [List.getElem?_eq_getElem hi]; exact h _ (List.getElem_mem hi)
  · rw [List.getElem?_eq_none (by omega)]; exact ⟨Int.le_refl _, by decide⟩
theorem Fits.set {ws : List Int} (h : Fits ws) (i : Nat) {v : Int} (hv : 0 ≤ v ∧ v < 18446744073709551616) : Fits (ws.set i v) := by
  intro x hx
  rcases List.mem_or_eq_of_mem_set hx with h1 | h1
  · exact h x h1
  · rw [h1]; exact hv
theorem Fits.zeros (n : Nat) : Fits (List.replicate n 0) := by
  intro x hx
  rw [(List.mem_replicate.1 hx).2]; exact ⟨Int.le_refl _, by decide⟩

/-- The bytes of which k are laid. -/
def byPad (ws : List Int) (k : Nat) : List Int := (bytesL ws).take k ++ List.replicate (8 * ws.length - k) 0
theorem byPad_zero (ws : List Int) : byPad ws 0 = List.replicate (8 * ws.length) 0 := by simp [byPad]
theorem byPad_all (ws : List Int) : byPad ws (8 * ws.length) = bytesL ws := by
  unfold byPad
  rw [List.take_of_length_le (by rw [length_bytesL]; omega), Nat.sub_self]; simp
theorem length_byPad (ws : List Int) (k : Nat) (hk : k ≤ 8 * ws.length) : (byPad ws k).length = 8 * ws.length := by simp [byPad, length_bytesL]; omega
theorem byPad_set (ws : List Int) (k : Nat) (hk : k < 8 * ws.length) : (byPad ws k).set k (byteAt ws k) = byPad ws (k + 1) := by
  have hkl : k < (bytesL ws).length := by rw [length_bytesL]; exact hk
  unfold byPad
  rw [List.take_succ_eq_append_getElem hkl, bytesL_get, List.set_append_right _ _ (by simp; omega)]
  obtain ⟨m, hm⟩ : ∃ m, 8 * ws.length - k = m + 1 := ⟨8 * ws.length - k - 1, by omega⟩
  have e1 : k - ((bytesL ws).take k).length = 0 := by simp; omega
  rw [e1, hm, List.replicate_succ, List.set_cons_zero, show 8 * ws.length - (k + 1) = m by omega]
  simp

/-- The words of which i bytes are laid. -/
def partAt (ws : List Int) (i j : Nat) : Int := ws[j]?.getD 0 % 2 ^ (8 * min 8 (i - 8 * j))
def partW (ws : List Int) (i : Nat) : List Int := (List.range ws.length).map (partAt ws i)
theorem length_partW (ws : List Int) (i : Nat) : (partW ws i).length = ws.length := by simp [partW]
theorem partW_get (ws : List Int) (i j : Nat) (h : j < ws.length) : (partW ws i)[j]? = some (partAt ws i j) := by simp [partW, h]
theorem partW_zero (ws : List Int) : partW ws 0 = List.replicate ws.length 0 := by
  apply List.ext_getElem?
  intro j
  by_cases h : j < ws.length
  · rw [partW_get ws 0 j h]; simp [h, partAt]
  · rw [List.getElem?_eq_none (by rw [length_partW]; omega), List.getElem?_eq_none (by simp; omega)]
theorem partW_all (ws : List Int) (hf : Fits ws) : partW ws (8 * ws.length) = ws := by
  apply List.ext_getElem?
  intro j
  by_cases h : j < ws.length
  · rw [partW_get ws _ j h, List.getElem?_eq_getElem h]
    have hb := hf _ (List.getElem_mem h)
    unfold partAt
    rw [List.getElem?_eq_getElem h, show min 8 (8 * ws.length - 8 * j) = 8 by omega]
    simp only [Option.getD_some, Nat.reduceMul, Int.reducePow]
    congr 1
    omega
  · rw [List.getElem?_eq_none (by rw [length_partW]; omega), List.getElem?_eq_none (by omega)]
theorem partAt_now (ws : List Int) (i : Nat) : partAt ws i (i / 8) = ws[i / 8]?.getD 0 % 2 ^ (i % 8 * 8) := by
  unfold partAt
  rw [show min 8 (i - 8 * (i / 8)) = i % 8 by omega, Nat.mul_comm]
theorem partW_step (ws : List Int) (i : Nat) (hi : i < 8 * ws.length) : (partW ws i).set (i / 8) (ws[i / 8]?.getD 0 % 2 ^ ((i % 8 + 1) * 8)) = partW ws (i + 1) := by
  have hl : i / 8 < ws.length := by omega
  apply List.ext_getElem?
  intro j
  rw [List.getElem?_set]
  by_cases hj : i / 8 = j
  · subst hj
    rw [if_pos rfl, if_pos (by rw [length_partW]; exact hl), partW_get ws _ _ hl]
    unfold partAt
    rw [show min 8 (i + 1 - 8 * (i / 8)) = i % 8 + 1 by omega, Nat.mul_comm]
  · rw [if_neg hj]
    by_cases h : j < ws.length
    · rw [partW_get ws i j h, partW_get ws _ j h]
      unfold partAt
      rw [show min 8 (i + 1 - 8 * j) = min 8 (i - 8 * j) by omega]
    · rw [List.getElem?_eq_none (by rw [length_partW]; omega), List.getElem?_eq_none (by rw [length_partW]; omega)]
/-- A byte is laid into a word. -/
theorem or_byte (v : Int) (hv : 0 ≤ v ∧ v < 18446744073709551616) (s : Nat) (hs : s < 8) : bits .or .u64 (v % 2 ^ (s * 8)) (IntKind.u64.wrap (v / 2 ^ (s * 8) % 256 * 2 ^ (s * 8))) = v % 2 ^ ((s + 1) * 8) := by
  obtain ⟨n, rfl⟩ := Int.eq_ofNat_of_zero_le hv.1
  have hp : ∀ k : Nat, (2 : Int) ^ k = ((2 ^ k : Nat) : Int) := fun k => (Int.natCast_pow 2 k).symm
  have key : n % 2 ^ (s * 8) + 2 ^ (s * 8) * (n / 2 ^ (s * 8) % 256) = n % 2 ^ ((s + 1) * 8) := by
    rw [show (s + 1) * 8 = s * 8 + 8 by omega, Nat.pow_add, Nat.mod_mul]
  have hlt : n % 2 ^ (s * 8) < 2 ^ (s * 8) := Nat.mod_lt _ (Nat.two_pow_pos _)
  have h64 : n % 2 ^ ((s + 1) * 8) < 18446744073709551616 := Nat.lt_of_le_of_lt (Nat.mod_le _ _) (by omega)
  have h2 := Nat.two_pow_add_eq_or_of_lt hlt (n / 2 ^ (s * 8) % 256)
  rw [hp (s * 8), hp ((s + 1) * 8)]
  generalize 2 ^ (s * 8) = a at *
  generalize 2 ^ ((s + 1) * 8) = b at *
  have e1 : ((n : Nat) : Int) / (a : Int) % 256 * (a : Int) = ((a * (n / a % 256) : Nat) : Int) := by
    rw [Int.natCast_mul, Int.natCast_emod, Int.natCast_ediv, Int.mul_comm]; rfl
  have e2 : ((n : Nat) : Int) % (a : Int) = ((n % a : Nat) : Int) := (Int.natCast_emod n a).symm
  have e3 : ((n : Nat) : Int) % (b : Int) = ((n % b : Nat) : Int) := (Int.natCast_emod n b).symm
  rw [e1, e2, e3, IntWalk.u64_in _ (by omega), bits_or_u64_nat _ _ (by omega) (by omega), Nat.or_comm, ← h2]
  congr 1
  omega
end Go.Proofs.YtlbgmoijepknbaaGreat

namespace Go.Proofs.YtlbgmoijepknbaaGreat
open Go.RowKit
set_option linter.unusedVariables false

theorem info_u8d : (Tryz.prog.info? 5).map (fun i => (i.zero, i.size, i.bytes)) = some (some (.int .u8 0), 1, 1) := by kernel_rfl
set_option maxRecDepth 100000 in
set_option maxHeartbeats 2000000 in
theorem bytesOfD (w : World) (A : Option Addr) (n c : Nat) (ws : List Int) (hn : ws.length = n) (hb : n ≤ 32768) (hf : Fits ws) (hR : Rd .u64 w A ws) :
    Calls Tryz.prog 42 #[.slice A n c] w fun e w' => ∃ g, e = .returned (.slice (some ⟨g, 0, none⟩) (8 * n) (8 * n)) ∧ IB .u8 5 w' g (bytesL ws) ∧ w.heap.size ≤ g ∧ Below w.heap.size w w' := by
  have HR := Lib.hid hR
  have HN := Lib.hid hn
  have HF := Lib.hid hf
  have hmk := fun W => run_make_z (P := Tryz.prog) 25 5 .u8 .i64 .i64 ((n : Int) * 8) (8 * n) (by omega) Tryz.underlying25 1 info_u8d (by omega) (by omega) W
  clear hR hn hf
  go_enter Tryz.func42, Tryz.ntmps42
  go_wp2
  have HI0 : Hid (IB .u8 5 (w.alloc (.cells (ia .u8 (List.replicate (8 * n) (0 : Int))) 5)) w.heap.size (byPad ws 0)) := by
    show IB _ _ _ _ _
    rw [byPad_zero, HN.out]; exact IB.new _ _
  have HB0 : Hid (Below w.heap.size w (w.alloc (.cells (ia .u8 (List.replicate (8 * n) (0 : Int))) 5))) := by show Below _ _ _; (repeat (first | with_reducible exact Below.refl _ _ | with_reducible refine bl_alloc ?_ _ | with_reducible refine bl_drew ?_ | with_reducible refine bl_drewN ?_ _ | with_reducible refine bl_bx ?_ _ | with_reducible exact BX.below _ | with_reducible refine bl_set ?_ (by first | (exact Nat.le_refl _) | (simp; done) | (simp; omega)) _ | assumption))
  obtain ⟨g, hg⟩ : ∃ g, w.heap.size = g := ⟨_, rfl⟩
  obtain ⟨W, hW⟩ : ∃ W, w.alloc (.cells (ia .u8 (List.replicate (8 * n) (0 : Int))) 5) = W := ⟨_, rfl⟩
  rw [hg, hW] at HI0
  rw [hW] at HB0
  rw [hg, hW]
  have HG := Lib.hid hg
  clear hW hg hmk
  go_loopw [11, 4, 12, 13, 14, 15, 16, 17, 18, 19, 20, 21, 22, 23, 24, 25, 26, 27, 28] (fun i _ _ _ _ _ _ _ _ _ _ _ _ _ _ _ _ _ _ wr => ∃ k : Nat, k ≤ 8 * n ∧ i = .int .i64 k ∧ IB .u8 5 wr g (byPad ws k) ∧ Below w.heap.size w wr) (fun i _ _ _ _ _ _ _ _ _ _ _ _ _ _ _ _ _ _ _ => 8 * n - (intOf i).toNat)
  case atStart => exact ⟨0, by omega, rfl, HI0.out, HB0.out⟩
  case round =>
    clear HI0 HB0
    obtain ⟨k, hk, rfl, hI, hB⟩ := hrel
    by_cases hlt : k < 8 * n
    · have hlt' : (k : Int) < 8 * (n : Int) := by omega
      have hk8 : k / 8 < ws.length := by rw [HN.out]; omega
      have hkn : k / 8 < n := by omega
      obtain ⟨b, o, rfl, hbb, hc⟩ := HR.out.at_ hk8
      have hbw := hB.size
      have hc' : wr.cell? ⟨b, o + k / 8, none⟩ = some (.int .u64 ws[k / 8]) := (hB.cell (p := ⟨b, o + k / 8, none⟩) hbb).trans hc
      have hbl : b < wr.heap.size := by omega
      have hcg := hI.cell (i := k) (by rw [length_byPad ws k (by rw [HN.out]; omega), HN.out]; exact hlt)
      have hfz := hI.frozen k
      have hgl := hI.lt
      have hgg : b ≠ g := by rw [← HG.out]; omega
      have HBY : Hid (ws[k / 8] / 2 ^ (k % 8 * 8) % 256 = byteAt ws k) := by
        show _ = _
        unfold byteAt
        rw [List.getElem?_eq_getElem hk8]; rfl
      have HST := Lib.hid (byPad_set ws k (by rw [HN.out]; exact hlt))
      obtain ⟨v, hv⟩ : ∃ v, ws[k / 8] = v := ⟨_, rfl⟩
      rw [hv] at hc' HBY
      have HI := Lib.hid hI
      have HB := Lib.hid hB
      clear hv hc hI hB
      go_wp2
      rw [HBY.out]
      refine ⟨⟨k + 1, by omega, by go_num, ?_, HB.out.setCell (p := ⟨g, k, none⟩) (by show w.heap.size ≤ g; rw [HG.out]; exact Nat.le_refl _) _⟩, by simp [intOf]; omega⟩
      rw [← HST.out]
      exact HI.out.set k _
    · obtain rfl : k = 8 * n := by omega
      have hI' : IB .u8 5 wr g (bytesL ws) := by
        have := hI
        rwa [show 8 * n = 8 * ws.length by rw [HN.out], byPad_all] at this
      have HI := Lib.hid hI'
      have HB := Lib.hid hB
      clear hI hB hI'
      go_wp2
      go_ret
      exact ⟨g, rfl, HI.out, by rw [← HG.out]; exact Nat.le_refl _, HB.out⟩
end Go.Proofs.YtlbgmoijepknbaaGreat

namespace Go.Proofs.YtlbgmoijepknbaaGreat
open Go.RowKit
set_option linter.unusedVariables false

/-- What From leaves. -/
def FromPost (w : World) (S : DevS) (e : Ending) (w' : World) : Prop :=
  ∃ d L, e = .returned (.tuple #[.pointer (some ⟨d, 0, none⟩), .int .i64 0]) ∧ Dev w' d L S ∧ Below w.heap.size w w' ∧ ∀ b, Fp L b → w.heap.size ≤ b
set_option maxRecDepth 100000 in
set_option maxHeartbeats 2000000 in
theorem devFrom (w : World) (A : Option Addr) (n c : Nat) (ws : List Int) (h1 : 1 ≤ n) (h2 : n ≤ 4096) (hw : ws.length = 8 * n) (hf : Fits ws) (hR : Rd .u8 w A (bytesL ws)) :
    Calls Tryz.prog 31 #[.slice A (64 * n) c] w (FromPost w (newS ws n)) := by
  have HR := Lib.hid hR
  have HN := Lib.hid hw
  have HF := Lib.hid hf
  have hmk := fun W => run_make_z (P := Tryz.prog) 27 34 .u64 .i64 .i64 (8 * (n : Int)) (8 * n) (by omega) Tryz.underlying27 8 info_u64 (by omega) (by omega) W
  have q1 : (64 * (n : Int)) % 64 = 0 := by omega
  have q2 : (64 * (n : Int)) / 64 = (n : Int) := by omega
  have q3 : (64 * (n : Int)) / 8 = 8 * (n : Int) := by omega
  have q4 : ¬ (n : Int) > 4096 := by omega
  have q5 : ((64 * (n : Int)) == 0) = false := by simp; omega
  clear hR hw hf
  go_enter Tryz.func31, Tryz.ntmps31
  go_wp2
  have HI0 : Hid (IB .u64 34 (w.alloc (.cells (ia .u64 (List.replicate (8 * n) (0 : Int))) 34)) w.heap.size (partW ws 0)) := by
    show IB _ _ _ _ _
    rw [partW_zero, HN.out]; exact IB.new _ _
  have HB0 : Hid (Below w.heap.size w (w.alloc (.cells (ia .u64 (List.replicate (8 * n) (0 : Int))) 34))) := by show Below _ _ _; (repeat (first | with_reducible exact Below.refl _ _ | with_reducible refine bl_alloc ?_ _ | with_reducible refine bl_drew ?_ | with_reducible refine bl_drewN ?_ _ | with_reducible refine bl_bx ?_ _ | with_reducible exact BX.below _ | with_reducible refine bl_set ?_ (by first | (exact Nat.le_refl _) | (simp; done) | (simp; omega)) _ | assumption))
  obtain ⟨g, hg⟩ : ∃ g, w.heap.size = g := ⟨_, rfl⟩
  obtain ⟨W, hW⟩ : ∃ W, w.alloc (.cells (ia .u64 (List.replicate (8 * n) (0 : Int))) 34) = W := ⟨_, rfl⟩
  rw [hg, hW] at HI0
  rw [hW] at HB0
  rw [hg, hW]
  have HG := Lib.hid hg
  clear hW hg hmk
  go_loopw [26, 5, 6, 27, 28, 29, 30, 31, 32, 33, 34, 35, 36, 37, 38, 39, 40, 41, 42, 43, 44, 45] (fun i _ _ _ _ _ _ _ _ _ _ _ _ _ _ _ _ _ _ _ _ _ wr => ∃ k : Nat, k ≤ 64 * n ∧ i = .int .i64 k ∧ IB .u64 34 wr g (partW ws k) ∧ Below w.heap.size w wr) (fun i _ _ _ _ _ _ _ _ _ _ _ _ _ _ _ _ _ _ _ _ _ _ => 64 * n - (intOf i).toNat)
  case atStart => exact ⟨0, by omega, rfl, HI0.out, HB0.out⟩
  case round =>
    clear HI0 HB0
    obtain ⟨k, hk, rfl, hI, hB⟩ := hrel
    by_cases hlt : k < 64 * n
    · have hlt' : (k : Int) < 64 * (n : Int) := by omega
      have hk8 : k / 8 < ws.length := by rw [HN.out]; omega
      have hkn : k / 8 < 8 * n := by omega
      have hkb : k < (bytesL ws).length := by rw [length_bytesL, HN.out]; omega
      obtain ⟨b, o, rfl, hbb, hc⟩ := HR.out.at_ hkb
      rw [bytesL_get] at hc
      have hbw := hB.size
      have hc' : wr.cell? ⟨b, o + k, none⟩ = some (.int .u8 (byteAt ws k)) := (hB.cell (p := ⟨b, o + k, none⟩) hbb).trans hc
      have hbl : b < wr.heap.size := by omega
      have hcg : wr.cell? ⟨g, k / 8, none⟩ = some (.int .u64 (ws[k / 8] % 2 ^ (k % 8 * 8))) := by
        have h3 := hI.cell (i := k / 8) (by rw [length_partW]; exact hk8)
        have h4 := partW_get ws k (k / 8) hk8
        rw [partAt_now, List.getElem?_eq_getElem hk8] at h4
        rw [List.getElem?_eq_getElem (by rw [length_partW]; exact hk8)] at h4
        injection h4 with h4
        rw [h4] at h3
        exact h3
      have hfz := hI.frozen (k / 8)
      have hgl := hI.lt
      have hgg : b ≠ g := by rw [← HG.out]; omega
      have hvr := HF.out _ (List.getElem_mem hk8)
      have hor := or_byte ws[k / 8] hvr (k % 8) (by omega)
      have hbyt : byteAt ws k = ws[k / 8] / 2 ^ (k % 8 * 8) % 256 := by unfold byteAt; rw [List.getElem?_eq_getElem hk8]; rfl
      rw [← hbyt] at hor
      have hbr := byteAt_range ws k
      have HST := Lib.hid (partW_step ws k (by rw [HN.out]; omega))
      rw [List.getElem?_eq_getElem hk8] at HST
      obtain ⟨bt, hbt⟩ : ∃ bt, byteAt ws k = bt := ⟨_, rfl⟩
      obtain ⟨od, hod⟩ : ∃ od, ws[k / 8] % 2 ^ (k % 8 * 8) = od := ⟨_, rfl⟩
      obtain ⟨nw, hnw⟩ : ∃ nw, ws[k / 8] % 2 ^ ((k % 8 + 1) * 8) = nw := ⟨_, rfl⟩
      rw [hbt] at hc' hor hbr
      rw [hod] at hcg hor
      rw [hnw] at hor
      have HST2 : Hid ((partW ws k).set (k / 8) nw = partW ws (k + 1)) := by
        show _ = _
        rw [← hnw]; exact HST.out
      have e1 : IntKind.u64.wrap bt = bt := IntWalk.u64_in _ (by omega)
      have HI := Lib.hid hI
      have HB := Lib.hid hB
      clear hc hI hB hbt hod hnw hbyt hvr HST
      go_wp2
      refine ⟨⟨k + 1, by omega, by go_num, ?_, HB.out.setCell (p := ⟨g, k / 8, none⟩) (by show w.heap.size ≤ g; rw [HG.out]; exact Nat.le_refl _) _⟩, by simp [intOf]; omega⟩
      rw [← HST2.out]
      exact HI.out.set (k / 8) _
    · obtain rfl : k = 64 * n := by omega
      have hI' : IB .u64 34 wr g ws := by
        have := hI
        rwa [show 64 * n = 8 * ws.length by rw [HN.out]; omega, partW_all ws HF.out] at this
      have HI := Lib.hid hI'
      have HB := Lib.hid hB
      clear hI hB hI'
      go_wp2_with (go_at_call 24; refine (devOf _ g n ws HI.out HN.out h1 h2).mono ?_; rintro e w2 ⟨d, L, rfl, hD, hb, hF⟩; have HD := Lib.hid hD; have HB2 := Lib.hid hb; have HFP := Lib.hid hF; clear hD hb hF)
      go_ret2
      refine ⟨d, L, rfl, HD.out, HB.out.trans (HB2.out.mono HB.out.size), fun b hb => ?_⟩
      rcases HFP.out b hb with h | h
      · rw [h, ← HG.out]; exact Nat.le_refl _
      · exact Nat.le_trans HB.out.size h
end Go.Proofs.YtlbgmoijepknbaaGreat

namespace Go.Proofs.YtlbgmoijepknbaaGreat
open Go.RowKit
set_option linter.unusedVariables false

theorem info_int : (Tryz.prog.info? 3).map (fun i => (i.zero, i.size, i.bytes)) = some (some (.int .i64 0), 1, 8) := by kernel_rfl
theorem cellsI_one (w : World) (e : TypeId) (a : Value) : ∀ (j : Nat) (u : Value), [a][j]? = some u → (w.alloc (.cells #[a] e)).cell? ((⟨w.heap.size, 0, none⟩ : Addr).add j) = some u := by
  intro j u hu
  have h1 : (⟨w.heap.size, 0, none⟩ : Addr).add j = ⟨w.heap.size, 0 + j, none⟩ := by unfold Addr.add; split <;> simp_all
  rw [h1, Nat.zero_add, (CB.new w e #[a]).cell]
  simpa using hu
theorem i64_one (a : Int) : ∀ u ∈ ([.int .i64 a] : List Value), u.oneCell' = true := by
  intro u hu
  simp only [List.mem_singleton] at hu
  subst hu; rfl
/-- The number of stores of a line that are not persistent. -/
def hlen (S : DevS) (q : Nat) : Nat := (S.lns[q]?.map (·.hist.length)).getD 0
def dirtyL (S : DevS) (k : Nat) : List Nat := (List.range k).filter fun q => decide (0 < hlen S q)
theorem dirtyL_step (S : DevS) (k : Nat) : dirtyL S (k + 1) = dirtyL S k ++ (if 0 < hlen S k then [k] else []) := by
  unfold dirtyL
  rw [List.range_succ, List.filter_append]
  by_cases h : 0 < hlen S k
  · simp [h]
  · simp [h]
theorem dirtyL_le (S : DevS) : ∀ k, (dirtyL S k).length ≤ k := by
  intro k
  exact Nat.le_trans (List.length_filter_le _ _) (by simp)
def nints (xs : List Nat) : List Value := xs.map fun (q : Nat) => Value.int .i64 (q : Int)
theorem length_nints (xs : List Nat) : (nints xs).length = xs.length := by simp [nints]
/-- What Dirty leaves. -/
def DirtyPost (w : World) (S : DevS) (e : Ending) (w' : World) : Prop :=
  ∃ A c, e = .returned (.slice A (dirtyL S S.lns.length).length c) ∧ Sl 3 1 w' A (dirtyL S S.lns.length).length c (nints (dirtyL S S.lns.length)) ∧ (∀ b, OwnB A b → w.heap.size ≤ b) ∧ Below w.heap.size w w'
set_option maxRecDepth 100000 in
set_option maxHeartbeats 2000000 in
theorem devDirty (w : World) (d : Nat) (L : Lay) (S : DevS) (h : Dev w d L S) :
    Calls Tryz.prog 40 #[.pointer (some ⟨d, 0, none⟩)] w (DirtyPost w S) := by
  have l2 := h.lcell
  have dl := h.lt
  obtain ⟨cs, hcb, hsz, hcs⟩ := h.lin
  obtain ⟨n, hn⟩ : ∃ n, S.lns.length = n := ⟨_, rfl⟩
  have hn2 : n ≤ 4096 := by rw [← hn]; exact h.nl.2
  have HCL : Hid (∀ q, q < n → w.cell? ⟨L.lb, q * 2 + 1, none⟩ = some (.slice (L.ha q) (hlen S q) (L.hc q))) := by
    intro q hq
    have hq' : q < S.lns.length := by omega
    rw [hcb.cell, show q * 2 + 1 = 2 * q + 1 by omega, (hcs q hq').2]
    unfold hlen
    rw [List.getElem?_eq_getElem hq']; rfl
  have lbl := hcb.lt
  rw [hn] at l2
  unfold DirtyPost
  rw [hn]
  clear h hcb hsz hcs
  go_enter Tryz.func40, Tryz.ntmps40
  go_wp2
  go_loopw [12, 3, 4, 13, 14, 15, 16, 17, 18, 19, 20, 21, 22, 23, 24, 25, 26, 27, 28, 29] (fun i s _ _ _ _ _ _ _ _ _ _ _ _ _ _ _ _ _ _ wr => ∃ (k : Nat) (A : Option Addr) (c : Nat), k ≤ n ∧ i = .int .i64 k ∧ s = .slice A (dirtyL S k).length c ∧ Sl 3 1 wr A (dirtyL S k).length c (nints (dirtyL S k)) ∧ (∀ b, OwnB A b → w.heap.size ≤ b) ∧ Below w.heap.size w wr) (fun i _ _ _ _ _ _ _ _ _ _ _ _ _ _ _ _ _ _ _ _ => n - (intOf i).toNat)
  case atStart => exact ⟨0, none, 0, by omega, rfl, rfl, Sl.nil, fun b hb => by simp [OwnB] at hb, Below.refl _ _⟩
  case round =>
    obtain ⟨k, A, c, hk, rfl, rfl, hS, hO, hB⟩ := hrel
    have HS := Lib.hid hS
    have HO := Lib.hid hO
    have HB := Lib.hid hB
    have l2' : wr.cell? ⟨d, 2, none⟩ = some (.slice (some ⟨L.lb, 0, none⟩) n n) := (hB.cell (p := ⟨d, 2, none⟩) dl).trans l2
    have hbs := hB.size
    have dl' : d < wr.heap.size := by omega
    have lbl' : L.lb < wr.heap.size := by omega
    clear hS hO hB
    by_cases hlt : k < n
    · have hc1 : wr.cell? ⟨L.lb, k * 2 + 1, none⟩ = some (.slice (L.ha k) (hlen S k) (L.hc k)) := (HB.out.cell (p := ⟨L.lb, k * 2 + 1, none⟩) lbl).trans (HCL.out k hlt)
      have HST := Lib.hid (dirtyL_step S k)
      have hle := dirtyL_le S k
      obtain ⟨dk, hdk⟩ : ∃ dk, dirtyL S k = dk := ⟨_, rfl⟩
      rw [hdk] at HST HS hle
      rw [hdk]
      obtain ⟨hl, hhl⟩ : ∃ hl, hlen S k = hl := ⟨_, rfl⟩
      rw [hhl] at hc1 HST
      clear hdk hhl
      by_cases h0 : 0 < hl
      · rw [if_pos h0] at HST
        have h0' : (hl : Int) > 0 := by omega
        go_wp2_with (at_builtin; refine wpList_append_sl rfl (.tmp 25) (.tmp 27) 134 rfl 3 (.int .i64 0) 1 8 rfl (by omega) Tryz.underlying134 info_int (by omega) A dk.length c (nints dk) ⟨wr.heap.size, 0, none⟩ 1 1 [.int .i64 (k : Int)] rfl rfl (HS.out.keep (fun b hb => Below.heap_alloc _ _ _ (HS.out.lt hb))) rfl (by omega) (cellsI_one wr 3 _) (i64_one _) (by omega) ?_; intro A2 c2 w2 HO2 HC2 HW2 HG2)
        refine ⟨⟨k + 1, A2, c2, by omega, by go_num, by rw [HST.out, List.length_append]; rfl, ?_, ?_, ?_⟩, by simp [intOf]; omega⟩
        · rw [HST.out, List.length_append]
          have := HO2.out
          simpa [nints] using this
        · intro b hb
          rcases HW2.out b hb with h | h
          · exact HO.out b h
          · have := HB.out.size; simp at h; omega
        · exact bl_ch (bl_alloc HB.out _) HC2.out (fun b hb => HO.out b hb)
      · rw [if_neg h0, List.append_nil] at HST
        have h0' : ¬ (hl : Int) > 0 := by omega
        go_wp2
        exact ⟨⟨k + 1, A, c, by omega, by go_num, by rw [HST.out], by rw [HST.out]; exact HS.out, HO.out, HB.out⟩, by simp [intOf]; omega⟩
    · obtain rfl : k = n := by omega
      go_wp2
      go_ret
      exact ⟨A, c, rfl, HS.out, HO.out, HB.out⟩
end Go.Proofs.YtlbgmoijepknbaaGreat

namespace Go.Proofs.YtlbgmoijepknbaaGreat
open Go.RowKit
set_option linter.unusedVariables false

def histL (S : DevS) (q : Nat) : List (Int × Int) := (S.lns[q]?.map (·.hist)).getD []
theorem hlen_histL (S : DevS) (q : Nat) : (histL S q).length = hlen S q := by
  unfold histL hlen
  cases S.lns[q]? with
  | none => rfl
  | some l => rfl
/-- How many stores of a line a choice selects. -/
def imgK (S : DevS) (cs : List Int) (q : Nat) : Nat := (cs[(dirtyL S S.lns.length).idxOf q % cs.length]?.getD 0).toNat % (hlen S q + 1)
/-- The words after the first k dirty lines. -/
def imgC (S : DevS) (K : Nat → Nat) (D : List Nat) (k : Nat) : List Int := (D.take k).foldl (fun xs q => applyW xs ((histL S q).take (K q))) S.pers
theorem imgC_step (S : DevS) (K : Nat → Nat) (D : List Nat) (k : Nat) (hk : k < D.length) : imgC S K D (k + 1) = applyW (imgC S K D k) ((histL S D[k]).take (K D[k])) := by
  unfold imgC
  rw [List.take_succ_eq_append_getElem hk, List.foldl_append]; rfl
theorem length_imgC (S : DevS) (K : Nat → Nat) (D : List Nat) : ∀ k, (imgC S K D k).length = S.pers.length := by
  intro k
  induction k with
  | zero => rfl
  | succ k ih =>
    by_cases hk : k < D.length
    · rw [imgC_step S K D k hk, length_applyW, ih]
    · unfold imgC at ih ⊢
      rw [List.take_of_length_le (by omega)] at ih ⊢
      exact ih
theorem mem_dirtyL {S : DevS} {k q : Nat} : q ∈ dirtyL S k ↔ q < k ∧ 0 < hlen S q := by unfold dirtyL; simp
theorem nodup_dirtyL (S : DevS) (k : Nat) : (dirtyL S k).Nodup := List.Pairwise.sublist List.filter_sublist List.nodup_range
section
variable {S : DevS} {N : Nat}
theorem hist_line (h : Good S N) (q : Nat) : ∀ p ∈ histL S q, ∃ k : Nat, p.1 = 8 * (k : Int) ∧ k / 8 = q := by
  intro p hp
  unfold histL at hp
  cases hl : S.lns[q]? with
  | none => rw [hl] at hp; simp at hp
  | some l =>
    rw [hl] at hp
    exact (h.ln q l hl).2.2 p hp
/-- The words after dirty lines, one by one. -/
theorem imgC_at (h : Good S N) (K : Nat → Nat) (D : List Nat) (hD : D.Nodup) (j : Nat) : ∀ k, k ≤ D.length → (imgC S K D k)[j]? = if j / 8 ∈ D.take k then (applyW S.pers ((histL S (j / 8)).take (K (j / 8))))[j]? else S.pers[j]? := by
  intro k
  induction k with
  | zero => intro _; simp [imgC]
  | succ k ih =>
    intro hk
    have hkl : k < D.length := by omega
    have ih := ih (by omega)
    rw [imgC_step S K D k hkl, List.take_succ_eq_append_getElem hkl]
    by_cases hq : D[k] = j / 8
    · have hnot : ¬ j / 8 ∈ D.take k := by
        intro hm
        obtain ⟨i, hi, hie⟩ := List.getElem_of_mem hm
        have hik : i < k := by simp at hi; omega
        rw [List.getElem_take] at hie
        have := (List.getElem_inj hD).1 (hie.trans hq.symm)
        omega
      rw [if_neg hnot] at ih
      rw [if_pos (by simp [hq]), hq]
      exact applyW_congr _ j _ _ (length_imgC S K D k) ih
    · rw [applyW_none _ j (fun p hp => by
        obtain ⟨i, hi1, hi2⟩ := hist_line h D[k] p (List.mem_of_mem_take hp)
        rw [hi1]; omega), ih]
      have : (j / 8 ∈ D.take k ++ [D[k]]) = (j / 8 ∈ D.take k) := by
        simp only [List.mem_append, List.mem_singleton, eq_iff_iff]
        constructor
        · rintro (h | h)
          · exact h
          · exact absurd h.symm hq
        · exact .inl
      simp only [this]
/-- What all dirty lines make of the words. -/
theorem imgC_all (h : Good S N) (K : Nat → Nat) : imgC S K (dirtyL S S.lns.length) (dirtyL S S.lns.length).length = (S.upto K).pers := by
  apply List.ext_getElem?
  intro j
  by_cases hj : j < S.pers.length
  · rw [imgC_at h K _ (nodup_dirtyL S _) j _ (Nat.le_refl _), List.take_length, upto_pers K j hj]
    have hl : j / 8 < S.lns.length := by have := h.np; omega
    have e1 : (S.lns[j / 8]?.map (·.hist)).getD [] = histL S (j / 8) := rfl
    rw [e1]
    by_cases hm : j / 8 ∈ dirtyL S S.lns.length
    · rw [if_pos hm]
    · rw [if_neg hm]
      have h0 : hlen S (j / 8) = 0 := Nat.eq_zero_of_not_pos (fun h0 => hm (mem_dirtyL.2 ⟨hl, h0⟩))
      have : histL S (j / 8) = [] := List.eq_nil_of_length_eq_zero (by rw [hlen_histL]; exact h0)
      rw [this]; simp [applyW]
  · rw [List.getElem?_eq_none (by rw [length_imgC]; omega), List.getElem?_eq_none (by rw [(length_upto K).1]; omega)]
end
end Go.Proofs.YtlbgmoijepknbaaGreat

namespace Go.Proofs.YtlbgmoijepknbaaGreat
open Go.RowKit
set_option linter.unusedVariables false

theorem Sl.rdW {w : World} {A : Option Addr} {n c : Nat} {xs : List Int} (h : Sl 34 1 w A n c (uints xs)) : Rd .u64 w A xs := by
  by_cases h0 : xs = []
  · exact .inl h0
  · have hlen : 0 < xs.length := List.length_pos_iff.2 h0
    obtain ⟨g, off, hA, hlt, _⟩ := h.at_ (j := 0) (by rw [length_uints]; exact hlen)
    refine .inr ⟨g, off, hA, hlt, fun i hi => ?_⟩
    obtain ⟨g', off', hA', _, hc⟩ := h.at_ (j := i) (by rw [length_uints]; exact hi)
    rw [hA] at hA'
    injection hA' with hA'
    injection hA' with e1 e2
    subst e1 e2
    rw [hc, get_uints xs i hi]
theorem fits_applyW (ws : List (Int × Int)) (hw : ∀ p ∈ ws, 0 ≤ p.2 ∧ p.2 < 18446744073709551616) : ∀ xs, Fits xs → Fits (applyW xs ws) := by
  induction ws with
  | nil => intro xs h; exact h
  | cons p ws ih =>
    intro xs h
    exact ih (fun q hq => hw q (by simp [hq])) _ (h.set _ (hw p (by simp)))
/-- What Image leaves: the bytes of a crash image. -/
def ImgPost (w : World) (S : DevS) (e : Ending) (w' : World) : Prop :=
  ∃ g K, e = .returned (.slice (some ⟨g, 0, none⟩) (8 * S.pers.length) (8 * S.pers.length)) ∧ (∀ q l, S.lns[q]? = some l → K q ≤ l.hist.length) ∧ IB .u8 5 w' g (bytesL (S.upto K).pers) ∧ w.heap.size ≤ g ∧ Below w.heap.size w w'
theorem upto_none0 (S : DevS) : (S.upto (fun _ => 0)).pers = S.pers := by
  apply List.ext_getElem?
  intro j
  by_cases hj : j < S.pers.length
  · rw [upto_pers _ j hj]; simp [applyW]
  · rw [List.getElem?_eq_none (by rw [(length_upto _).1]; omega), List.getElem?_eq_none (by omega)]
set_option maxRecDepth 100000 in
set_option maxHeartbeats 2000000 in
/-- Image without a choice. -/
theorem devImage_nil (w : World) (d : Nat) (L : Lay) (S : DevS) (h : Dev w d L S) (hf : Fits S.pers) (A : Option Addr) :
    Calls Tryz.prog 32 #[.pointer (some ⟨d, 0, none⟩), .slice A 0 0] w (ImgPost w S) := by
  have d0 : w.cell? ⟨d, 0, none⟩ = some (.slice (some ⟨L.pb, 0, none⟩) S.pers.length L.pc) := h.dev.cell_some (i := 0) rfl
  have dl := h.lt
  have hn := h.nl
  have hp := h.np
  have HCL := Lib.hid (cloneU w L.pb 0 S.pers.length L.pc S.pers rfl (by omega) (by omega) h.pers.rdW)
  have HF := Lib.hid hf
  obtain ⟨n, hnn⟩ : ∃ n, S.pers.length = n := ⟨_, rfl⟩
  have HN := Lib.hid hnn
  have hn5 : n ≤ 32768 := by omega
  unfold ImgPost
  rw [hnn] at d0 HCL ⊢
  clear h hf hnn hp
  go_enter Tryz.func32, Tryz.ntmps32
  go_wp2_with (first
    | (go_at_call 37; refine HCL.out.mono ?_; rintro e w1 ⟨g, c, rfl, hS, hg, hb⟩; have HS := Lib.hid hS; have HB := Lib.hid hb; have HG := Lib.hid hg; clear hS hb hg)
    | (go_at_call 42; refine (bytesOfD w1 _ n c S.pers HN.out hn5 HF.out HS.out.rdW).mono ?_; rintro e w2 ⟨g2, rfl, hI2, hg2, hb2⟩; have HI2 := Lib.hid hI2; have HB2 := Lib.hid hb2; have HG2 := Lib.hid hg2; clear hI2 hb2 hg2))
  go_ret
  refine ⟨g2, fun _ => 0, rfl, fun _ _ _ => Nat.zero_le _, ?_, Nat.le_trans HB.out.size HG2.out, HB.out.trans (HB2.out.mono HB.out.size)⟩
  rw [upto_none0]; exact HI2.out
end Go.Proofs.YtlbgmoijepknbaaGreat

namespace Go.Proofs.YtlbgmoijepknbaaGreat
open Go.RowKit
set_option linter.unusedVariables false

section
variable {F : Nat → Prop} {d : Nat} {t : Nat → Nat} {w : World} {S : DevS} {N : Nat}
theorem vLoad (h : DV F d t w S) (i : Nat) (hi : i < 8) (hO : S.off = false) (k : Nat) (v : Int) (hk : S.cur[k]? = some v) :
    Calls Tryz.prog 86 #[.pointer (some ⟨t i, 0, none⟩), .int .u64 (8 * (k : Int))] w fun e w' => e = .returned (.int .u64 v) ∧ w = w' := by
  obtain ⟨_, L, rfl, h3, _⟩ := h
  obtain ⟨hl, hv⟩ := List.getElem?_eq_some_iff.1 hk
  have := thLoad_ok w d L S h3 i hi hO k hl
  rwa [hv] at this
theorem vErr (h : DV F d t w S) (i : Nat) (hi : i < 8) : Calls Tryz.prog 83 #[.pointer (some ⟨t i, 0, none⟩)] w fun e w' => e = .returned (.int .i64 (S.thr i).err) ∧ w = w' := by
  obtain ⟨_, L, rfl, h3, _⟩ := h
  exact thErr w d L S h3 i hi
theorem vSize (h : DV F d t w S) (i : Nat) (hi : i < 8) : Calls Tryz.prog 87 #[.pointer (some ⟨t i, 0, none⟩)] w fun e w' => e = .returned (.int .u64 ((S.lns.length : Int) * 64)) ∧ w = w' := by
  obtain ⟨_, L, rfl, h3, _⟩ := h
  exact thSize w d L S h3 i hi
theorem vThread (h : DV F d t w S) (i : Nat) (hi : i < 8) : Calls Tryz.prog 12 #[.pointer (some ⟨d, 0, none⟩), .int .i64 (i : Int)] w fun e w' => e = .returned (.pointer (some ⟨t i, 0, none⟩)) ∧ w = w' := by
  obtain ⟨_, L, rfl, h3, _⟩ := h
  exact devThread w d L S h3 i hi
end
/-- A device of n lines that is on, with those words. -/
structure On (S : DevS) (n : Nat) (xs : List Int) (N : Nat) : Prop where
  good : Good S N
  nl : S.lns.length = n
  cur : S.cur = xs
  off : S.off = false
  armed : S.armed = false
  err : ∀ j, (S.thr j).err = 0
theorem new_on (xs : List Int) (n : Nat) (hx : xs.length = 8 * n) : On (newS xs n) n xs 0 := by
  refine ⟨⟨by simpa [newS] using hx, by simpa [newS] using hx, fun q l hl => ?_, fun i hi => ⟨Nat.le_refl _, fun x c hc => by simp [newS] at hc⟩⟩, by simp [newS], rfl, rfl, rfl, fun _ => rfl⟩
  simp only [newS, List.getElem?_replicate] at hl
  split at hl
  · injection hl with hl; subst hl; simp
  · cases hl
theorem On.length {S : DevS} {n : Nat} {xs : List Int} {N : Nat} (h : On S n xs N) : xs.length = 8 * n := by rw [← h.cur, h.good.nc, h.nl]
theorem On.mono {S : DevS} {n : Nat} {xs : List Int} {N M : Nat} (h : On S n xs N) (hM : N ≤ M) : On S n xs M := ⟨h.good.mono hM, h.nl, h.cur, h.off, h.armed, h.err⟩
theorem On.store {S : DevS} {n : Nat} {xs : List Int} {N : Nat} (h : On S n xs N) (i k : Nat) (hk : k < 8 * n) (v : Int) : On (S.store i (8 * (k : Int)) v) n (xs.set k v) (N + 1) := by
  have hG := h.good.store i (8 * (k : Int)) v (by omega)
  have hw : S.wordB (8 * (k : Int)) = true := by unfold DevS.wordB; simp [h.nl]; omega
  have hq : ((8 * (k : Int)) / 8).toNat = k := by omega
  have hE : S.store i (8 * (k : Int)) v = ({ S with exec := IntKind.u64.wrap (S.exec + 1) } : DevS).write k v := by
    unfold DevS.store
    rw [hw, hq]
    simp [DevS.cntB, DevS.cnt, DevS.onB, h.off, h.armed]
  rw [hE] at hG ⊢
  exact ⟨hG, by simp [DevS.write, h.nl], by show S.cur.set k v = _; rw [h.cur], h.off, h.armed, h.err⟩
/-- What a thread loads. -/
def LdV (T : Nat) (xs : List Int) (w : World) : Prop := ∀ W, Below w.heap.size w W → ∀ (k : Nat) (v : Int), xs[k]? = some v → Calls Tryz.prog 86 #[.pointer (some ⟨T, 0, none⟩), .int .u64 (8 * (k : Int))] W fun e w' => e = .returned (.int .u64 v) ∧ W = w'
theorem LdV.below {T : Nat} {xs : List Int} {w w' : World} (h : LdV T xs w) (hb : Below w.heap.size w w') : LdV T xs w' := fun W hW => h W (hb.trans (hW.mono hb.size))
theorem ldV {F : Nat → Prop} {d : Nat} {t : Nat → Nat} {w : World} {S : DevS} {n N : Nat} {xs : List Int} (h : DV F d t w S) (hO : On S n xs N) (i : Nat) (hi : i < 8) : LdV (t i) xs w :=
  fun W hW k v hk => vLoad (h.below hW) i hi hO.off k v (by rw [hO.cur]; exact hk)
end Go.Proofs.YtlbgmoijepknbaaGreat

namespace Go.Proofs.YtlbgmoijepknbaaGreat
open Go.RowKit
set_option linter.unusedVariables false

theorem cnt_pers (S : DevS) (i : Nat) (b : Bool) : (S.cnt i b).pers = S.pers := by
  unfold DevS.cnt DevS.on DevS.fail DevS.setErr
  repeat' split
  all_goals rfl
theorem fail_all (S : DevS) (i : Nat) (e : Int) : (S.fail i e).pers = S.pers ∧ (S.fail i e).lns = S.lns ∧ (S.fail i e).off = S.off := by
  unfold DevS.fail DevS.setErr
  split <;> exact ⟨rfl, rfl, rfl⟩
/-- All words fit. -/
structure FitS (S : DevS) : Prop where
  pers : Fits S.pers
  hist : ∀ (q : Nat) (l : Ln), S.lns[q]? = some l → ∀ p ∈ l.hist, 0 ≤ p.2 ∧ p.2 < 18446744073709551616
section
variable {S S' : DevS}
theorem FitS.same (h : FitS S) (h1 : S'.pers = S.pers) (h2 : S'.lns = S.lns) : FitS S' := ⟨by rw [h1]; exact h.pers, by rw [h2]; exact h.hist⟩
theorem FitS.write (h : FitS S) (k : Nat) (v : Int) (hv : 0 ≤ v ∧ v < 18446744073709551616) : FitS (S.write k v) := by
  refine ⟨h.pers, fun q l hl p hp => ?_⟩
  simp only [DevS.write, List.getElem?_modify] at hl
  obtain ⟨l0, h0, h1⟩ := Option.map_eq_some_iff.1 hl
  split at h1
  · subst h1
    rcases List.mem_append.1 hp with hp | hp
    · exact h.hist q l0 h0 p hp
    · have : p = (8 * (k : Int), v) := by simpa using hp
      subst this; exact hv
  · have : l0 = l := by simpa using h1
    subst this; exact h.hist q l0 h0 p hp
theorem FitS.upto (h : FitS S) (K : Nat → Nat) : FitS (S.upto K) := by
  refine ⟨fun x hx => ?_, fun q l hl p hp => ?_⟩
  · obtain ⟨j, hj, rfl⟩ := List.getElem_of_mem hx
    have hj' : j < S.pers.length := by rwa [(length_upto _).1] at hj
    have h1 := upto_pers K j hj'
    rw [List.getElem?_eq_getElem hj] at h1
    have hf : Fits (applyW S.pers (((S.lns[j / 8]?.map (·.hist)).getD []).take (K (j / 8)))) := by
      refine fits_applyW _ (fun p hp => ?_) _ h.pers
      have hp := List.mem_of_mem_take hp
      cases hl : S.lns[j / 8]? with
      | none => rw [hl] at hp; simp at hp
      | some l => rw [hl] at hp; exact h.hist _ l hl p (by simpa using hp)
    exact hf _ (List.mem_of_getElem? h1.symm)
  · rw [upto_ln] at hl
    obtain ⟨l0, h0, rfl⟩ := Option.map_eq_some_iff.1 hl
    exact h.hist q l0 h0 p (List.mem_of_mem_drop hp)
theorem FitS.exec1 (h : FitS S) (i : Nat) (p : Ins) (hp : 0 ≤ p.2.2 ∧ p.2.2 < 18446744073709551616) : FitS (S.exec1 i p) := by
  have hc : ∀ b, FitS (S.cnt i b) := fun b => h.same (cnt_pers S i b) (cnt_lns S i b).1
  unfold DevS.exec1
  split
  · unfold DevS.store
    split
    · exact (hc _).write _ _ hp
    · exact hc _
  · split
    · unfold DevS.flush
      split
      · exact (hc _).same rfl rfl
      · exact hc _
    · unfold DevS.fence
      split
      · exact ((hc _).upto _).same rfl rfl
      · exact hc _
theorem FitS.runP (i : Nat) : ∀ (ps : List Ins) {S : DevS}, FitS S → (∀ p ∈ ps, 0 ≤ p.2.2 ∧ p.2.2 < 18446744073709551616) → FitS (S.runP i ps) := by
  intro ps
  induction ps with
  | nil => intro S h _; exact h
  | cons p ps ih => intro S h hp; exact ih (h.exec1 i p (hp p List.mem_cons_self)) (fun q hq => hp q (List.mem_cons_of_mem _ hq))
theorem cnt_off (ho : S.off = true) (i : Nat) (b : Bool) : S.cntB b = false ∧ S.cnt i b = S.fail i 3 := by
  simp [DevS.cntB, DevS.cnt, DevS.onB, DevS.on, ho]
/-- Without power nothing is executed. -/
theorem off_exec1 (ho : S.off = true) (i : Nat) (p : Ins) : (S.exec1 i p).off = true ∧ (S.exec1 i p).pers = S.pers ∧ (S.exec1 i p).lns = S.lns := by
  have hf := fail_all S i 3
  have hx : ∀ b, (S.cnt i b).off = true ∧ (S.cnt i b).pers = S.pers ∧ (S.cnt i b).lns = S.lns := fun b => by
    rw [(cnt_off ho i b).2]; exact ⟨hf.2.2.trans ho, hf.1, hf.2.1⟩
  unfold DevS.exec1 DevS.store DevS.flush DevS.fence
  simp only [(cnt_off ho i _).1, Bool.false_eq_true, if_false]
  split
  · exact hx _
  · split
    · exact hx _
    · exact hx _
theorem cnt_cut (ho : S.off = false) (ha : S.armed = true) (hl : S.left = 0) (i : Nat) : S.cntB true = false ∧ (S.cnt i true).off = true ∧ (S.cnt i true).pers = S.pers ∧ (S.cnt i true).lns = S.lns := by
  refine ⟨by simp [DevS.cntB, DevS.onB, ho, ha, hl], ?_, cnt_pers S i true, (cnt_lns S i true).1⟩
  have : S.cnt i true = DevS.fail { S with off := true } i 3 := by simp [DevS.cnt, DevS.onB, ho, ha, hl]
  rw [this]
  exact (fail_all _ i 3).2.2
theorem cnt_go (ho : S.off = false) (ha : S.armed = true) (hl : S.left ≠ 0) (i : Nat) : S.cntB true = true ∧ S.cnt i true = { S with left := S.left - 1, exec := IntKind.u64.wrap (S.exec + 1) } := by
  simp [DevS.cntB, DevS.cnt, DevS.onB, ho, ha, hl]
/-- The power fails at an instruction. -/
theorem cut_exec1 (ho : S.off = false) (ha : S.armed = true) (hl : S.left = 0) (hn : S.lns.length = 12) (i : Nat) (p : Ins) (hp : p.2.1 = 64 ∨ p.1 = 3) : (S.exec1 i p).off = true ∧ (S.exec1 i p).pers = S.pers ∧ (S.exec1 i p).lns = S.lns := by
  have hx := cnt_cut ho ha hl i
  unfold DevS.exec1 DevS.store DevS.flush DevS.fence
  rcases hp with hp | hp
  · have hw : S.wordB p.2.1 = true := by rw [hp]; simp [DevS.wordB, hn]
    have hi : S.inB p.2.1 = true := by rw [hp]; simp [DevS.inB, hn]
    rw [hw, hi, hx.1]
    simp only [Bool.false_eq_true, if_false]
    split
    · exact hx.2
    · split <;> exact hx.2
  · rw [hp, hx.1]
    simp
    exact hx.2
/-- Line 1's word 8, and what of it is not persistent. -/
structure CS (S : DevS) (a : Int) (h : List (Int × Int)) : Prop where
  np : S.pers.length = 96
  p8 : S.pers[8]? = some a
  hist : (S.lns[1]?.map (·.hist)) = some h
theorem CS.same {a : Int} {l : List (Int × Int)} (h : CS S a l) (h1 : S'.pers = S.pers) (h2 : S'.lns = S.lns) : CS S' a l := ⟨by rw [h1]; exact h.np, by rw [h1]; exact h.p8, by rw [h2]; exact h.hist⟩
/-- The word in a crash image. -/
theorem CS.image {a : Int} {l : List (Int × Int)} (h : CS S a l) (K : Nat → Nat) : (S.upto K).pers[8]? = (applyW S.pers (l.take (K 1)))[8]? := by
  have h1 := upto_pers (S := S) K 8 (by rw [h.np]; omega)
  have h2 : (S.lns[1]?.map (·.hist)) = some l := h.hist
  have h3 : (S.upto K).pers[8]? = (applyW S.pers (((S.lns[1]?.map (·.hist)).getD []).take (K 1)))[8]? := h1
  rw [h3, h2]
  rfl
end
/-- What a cut program of one store leaves. -/
theorem cut_run (S : DevS) (N : Nat) (hG : Good S N) (hN : N < 1000000) (hl : S.lns.length = 12) (ho : S.off = false) (v want : Int) (hC : CS S v []) (hn : ∀ x, (S.thr 0).notes x = none) (k : Nat) :
    ∃ a h, CS ((S.arm k).runP 0 (storesP [(64, want)])) a h ∧ ((a = v ∧ h = []) ∨ (a = v ∧ h = [(64, want)]) ∨ (a = want ∧ h = [])) ∧ (((S.arm k).runP 0 (storesP [(64, want)])).off = false → a = want ∧ h = []) := by
  have hP : storesP [((64 : Int), want)] = [(1, 64, want), (2, 64, 0), (3, 0, 0)] := by
    have : startOf 64 = 64 := by decide
    simp [storesP, insSt, insFl, starts, cpt, this]
  have hA : S.arm k = { S with armed := true, left := (k : Int) } := by
    unfold DevS.arm
    rw [ho]
    have h1 : imax (k : Int) 0 = (k : Int) := by unfold imax; rw [if_neg (by omega)]
    simp [h1]
  rw [hP, hA]
  show ∃ a h, CS (((({ S with armed := true, left := (k : Int) } : DevS).exec1 0 (1, 64, want)).exec1 0 (2, 64, 0)).exec1 0 (3, 0, 0)) a h ∧ _ ∧ ((((({ S with armed := true, left := (k : Int) } : DevS).exec1 0 (1, 64, want)).exec1 0 (2, 64, 0)).exec1 0 (3, 0, 0)).off = false → _)
  obtain ⟨A, hAe⟩ : ∃ A : DevS, ({ S with armed := true, left := (k : Int) } : DevS) = A := ⟨_, rfl⟩
  have a1 : A.off = false := by rw [← hAe]; exact ho
  have a2 : A.armed = true := by rw [← hAe]
  have a3 : A.left = (k : Int) := by rw [← hAe]
  have a4 : A.lns.length = 12 := by rw [← hAe]; exact hl
  have a5 : CS A v [] := by rw [← hAe]; exact hC.same rfl rfl
  have a6 : ∀ x, (A.thr 0).notes x = none := by rw [← hAe]; exact hn
  have a7 : Good A N := by rw [← hAe]; exact hG.ctr _ _ _ _
  rw [hAe]
  clear hAe hA hP
  by_cases k0 : k = 0
  · obtain ⟨b1, b2, b3⟩ := cut_exec1 a1 a2 (by rw [a3, k0]; rfl) a4 0 (1, 64, want) (.inl rfl)
    obtain ⟨c1, c2, c3⟩ := off_exec1 b1 0 (2, 64, 0)
    obtain ⟨d1, d2, d3⟩ := off_exec1 c1 0 (3, 0, 0)
    exact ⟨v, [], a5.same (d2.trans (c2.trans b2)) (d3.trans (c3.trans b3)), .inl ⟨rfl, rfl⟩, fun h => by rw [d1] at h; cases h⟩
  · obtain ⟨e1, e2⟩ := cnt_go a1 a2 (by rw [a3]; omega) 0
    have hw : A.wordB 64 = true := by simp [DevS.wordB, a4]
    have hS1 : A.exec1 0 (1, 64, want) = ({ A with left := A.left - 1, exec := IntKind.u64.wrap (A.exec + 1) } : DevS).write 8 want := by
      simp only [DevS.exec1, DevS.store, if_true, hw, e1, e2]
      rfl
    have g1 : Good (A.exec1 0 (1, 64, want)) (N + 1) := a7.exec1 (by omega) _ (show (0 : Int) ≤ 64 by decide) (by omega)
    rw [hS1] at g1 ⊢
    obtain ⟨B, hB⟩ : ∃ B : DevS, ({ A with left := A.left - 1, exec := IntKind.u64.wrap (A.exec + 1) } : DevS).write 8 want = B := ⟨_, rfl⟩
    have b1 : B.off = false := by rw [← hB]; exact a1
    have b2 : B.armed = true := by rw [← hB]; exact a2
    have b3 : B.left = (k : Int) - 1 := by rw [← hB, ← a3]; rfl
    have b4 : B.lns.length = 12 := by rw [← hB]; simpa [DevS.write] using a4
    have b5 : CS B v [(64, want)] := by
      refine ⟨by rw [← hB]; exact a5.np, by rw [← hB]; exact a5.p8, ?_⟩
      have h1 := a5.hist
      rw [← hB]
      obtain ⟨l, hl1, hl2⟩ := Option.map_eq_some_iff.1 h1
      simp [DevS.write, hl1, hl2]
    have b6 : ∀ x, (B.thr 0).notes x = none := by rw [← hB]; exact a6
    rw [hB] at g1 ⊢
    clear hB hS1
    by_cases k1 : k = 1
    · obtain ⟨c1, c2, c3⟩ := cut_exec1 b1 b2 (by rw [b3, k1]; rfl) b4 0 (2, 64, 0) (.inl rfl)
      obtain ⟨d1, d2, d3⟩ := off_exec1 c1 0 (3, 0, 0)
      exact ⟨v, [(64, want)], b5.same (d2.trans c2) (d3.trans c3), .inr (.inl ⟨rfl, rfl⟩), fun h => by rw [d1] at h; cases h⟩
    · obtain ⟨e3, e4⟩ := cnt_go b1 b2 (by rw [b3]; omega) 0
      have hi : B.inB 64 = true := by simp [DevS.inB, b4]
      have hS2 : B.exec1 0 (2, 64, 0) = ({ B with left := B.left - 1, exec := IntKind.u64.wrap (B.exec + 1) } : DevS).note 0 1 := by
        simp only [DevS.exec1, DevS.flush, hi, e3, e4]
        rfl
      have g2 : Good (B.exec1 0 (2, 64, 0)) (N + 1 + 1) := g1.exec1 (by omega) _ (by decide) (by omega)
      rw [hS2] at g2 ⊢
      obtain ⟨C, hCe⟩ : ∃ C : DevS, ({ B with left := B.left - 1, exec := IntKind.u64.wrap (B.exec + 1) } : DevS).note 0 1 = C := ⟨_, rfl⟩
      have c1 : C.off = false := by rw [← hCe]; exact b1
      have c2 : C.armed = true := by rw [← hCe]; exact b2
      have c3 : C.left = (k : Int) - 1 - 1 := by rw [← hCe, ← b3]; rfl
      have c4 : C.lns.length = 12 := by rw [← hCe]; exact b4
      have c5 : CS C v [(64, want)] := by rw [← hCe]; exact b5.same rfl rfl
      obtain ⟨l, hl1, hl2⟩ := Option.map_eq_some_iff.1 b5.hist
      have c6 : (C.thr 0).notes 1 = some (l.done + 1) := by
        obtain ⟨r1, r2, _⟩ := g1.ln 1 l hl1
        have hw2 : IntKind.u64.wrap (l.done + (l.hist.length : Int)) = l.done + 1 := by
          rw [hl2]
          rw [hl2] at r2
          exact IntWalk.u64_in _ (by simp at r2 ⊢; omega)
        rw [← hCe]
        simp [DevS.note, hl1, hw2]
      have c7 : C.lns[1]? = some l := by rw [← hCe]; exact hl1
      rw [hCe] at g2 ⊢
      clear hCe hS2
      by_cases k2 : k = 2
      · obtain ⟨d1, d2, d3⟩ := cut_exec1 c1 c2 (by rw [c3, k2]; rfl) c4 0 (3, 0, 0) (.inr rfl)
        exact ⟨v, [(64, want)], c5.same d2 d3, .inr (.inl ⟨rfl, rfl⟩), fun h => by rw [d1] at h; cases h⟩
      · obtain ⟨e5, e6⟩ := cnt_go c1 c2 (by rw [c3]; omega) 0
        obtain ⟨Z, hZ⟩ : ∃ Z : DevS, ({ C with left := C.left - 1, exec := IntKind.u64.wrap (C.exec + 1) } : DevS) = Z := ⟨_, rfl⟩
        have hS3 : C.exec1 0 (3, 0, 0) = (Z.upto (Z.due 0)).clearN 0 := by
          simp only [DevS.exec1, DevS.fence, e5, e6, hZ]
          rfl
        have z5 : CS Z v [(64, want)] := by rw [← hZ]; exact c5.same rfl rfl
        have z7 : Z.lns[1]? = some l := by rw [← hZ]; exact c7
        have z6 : Z.due 0 1 = 1 := by
          have : (Z.thr 0).notes ((1 : Nat) : Int) = some (l.done + 1) := by rw [← hZ]; exact c6
          unfold DevS.due
          rw [this, z7]
          simp
          omega
        rw [hS3]
        refine ⟨want, [], ⟨?_, ?_, ?_⟩, .inr (.inr ⟨rfl, rfl⟩), fun _ => ⟨rfl, rfl⟩⟩
        · show (Z.upto (Z.due 0)).pers.length = 96
          rw [(length_upto _).1]; exact z5.np
        · show (Z.upto (Z.due 0)).pers[8]? = some want
          rw [z5.image, z6]
          simp only [List.take_succ_cons, List.take_zero, applyW, List.foldl_cons, List.foldl_nil]
          rw [List.getElem?_set, if_pos (by decide), if_pos (by rw [z5.np]; omega)]
        · show (Z.upto (Z.due 0)).lns[1]?.map (·.hist) = some []
          rw [upto_ln, z7]
          simp [z6, hl2]
/-- Line 1 is made persistent. -/
theorem persist_word {S : DevS} {N : Nat} {xs0 : List Int} {ws : List (Int × Int)} (h : Mid S 0 12 xs0 ws [] N) (hN : N + 2 < 1000000) (hw : ∀ p ∈ ws, 0 ≤ p.1) (hx : xs0.length = 96) :
    On (S.runP 0 [(2, 64, 0), (3, 0, 0)]) 12 (applyW xs0 ws) (N + 2) ∧ (∀ v, (applyW xs0 ws)[8]? = some v → CS (S.runP 0 [(2, 64, 0), (3, 0, 0)]) v []) ∧ ∀ x, ((S.runP 0 [(2, 64, 0), (3, 0, 0)]).thr 0).notes x = none := by
  have h1 := h.flush (q := 1) (by omega) (by omega)
  have hr : S.runP 0 [(2, 64, 0), (3, 0, 0)] = (S.flush 0 64).fence 0 := rfl
  have e64 : (64 : Int) * ((1 : Nat) : Int) = 64 := by decide
  rw [e64, List.nil_append] at h1
  rw [hr]
  obtain ⟨B, hB⟩ : ∃ B, S.flush 0 64 = B := ⟨_, rfl⟩
  rw [hB] at h1
  rw [hB]
  have hG := (h1.good.fence (i := 0) (by omega) (by omega)).mono (Nat.le_succ (N + 1))
  obtain ⟨c1, c2⟩ := cnt_ok (i := 0) h1.off h1.armed
  have hE : B.fence 0 = ((({ B with exec := IntKind.u64.wrap (B.exec + 1) } : DevS).upto (({ B with exec := IntKind.u64.wrap (B.exec + 1) } : DevS).due 0))).clearN 0 := by
    unfold DevS.fence; rw [c1, if_pos rfl, c2]
  rw [hE] at hG ⊢
  obtain ⟨T, hT⟩ : ∃ T : DevS, T = { B with exec := IntKind.u64.wrap (B.exec + 1) } := ⟨_, rfl⟩
  have hTl : T.lns = B.lns := by rw [hT]
  have hTt : T.thr = B.thr := by rw [hT]
  have hTp : T.pers = xs0 := by rw [hT]; exact h1.pers
  have hTc : T.cur = applyW xs0 ws := by rw [hT]; exact h1.cur
  rw [← hT] at hG ⊢
  have hlt : 1 < B.lns.length := by rw [h1.nl]; omega
  obtain ⟨l, hl⟩ : ∃ l, B.lns[1]? = some l := ⟨_, List.getElem?_eq_getElem hlt⟩
  have hdue : T.due 0 1 = l.hist.length := by
    obtain ⟨a1, a2, _⟩ := h1.good.ln 1 l hl
    unfold DevS.due
    rw [hTt, hTl, hl, h1.note 1 l hl (by simp)]
    simp
    omega
  refine ⟨⟨hG, ?_, hTc, by rw [hT]; exact h1.off, by rw [hT]; exact h1.armed, fun j => ?_⟩, fun v hv => ⟨?_, ?_, ?_⟩, fun x => ?_⟩
  · show (T.upto (T.due 0)).lns.length = 12
    rw [(length_upto _).2, hTl]; exact h1.nl
  · show (((T.upto (T.due 0)).clearN 0).thr j).err = 0
    have e1 : ((T.upto (T.due 0)).thr) = B.thr := hTt
    by_cases hj : j = 0
    · subst hj; simp [DevS.clearN, e1, h1.err]
    · simp [DevS.clearN, hj, e1, h1.err]
  · show (T.upto (T.due 0)).pers.length = 96
    rw [(length_upto _).1, hTp]; exact hx
  · show (T.upto (T.due 0)).pers[8]? = some v
    rw [upto_pers _ 8 (by rw [hTp, hx]; omega), hTp, hTl, show (8 / 8 : Nat) = 1 from rfl, hl, hdue]
    simp only [Option.map_some, Option.getD_some, List.take_length]
    rw [h1.hist 1 l hl]
    exact (applyW_filter 8 ws xs0 hw).trans hv
  · show (T.upto (T.due 0)).lns[1]?.map (·.hist) = some []
    rw [upto_ln, hTl, hl]
    simp [hdue]
  · simp [DevS.clearN]
end Go.Proofs.YtlbgmoijepknbaaGreat

namespace Go.Proofs.YtlbgmoijepknbaaGreat
open Go.RowKit
set_option linter.unusedVariables false

def DevS.disarm (S : DevS) : DevS := { S with armed := false, left := 0 }
def DevS.rearm (S : DevS) (l : Int) : DevS := { S with armed := true, left := l }
/-- An armed device of n lines that is on, with those words, all persistent; k instructions are left. -/
structure CleanA (S : DevS) (n : Nat) (xs : List Int) (N k : Nat) : Prop where
  cl : Clean S.disarm n xs N
  armed : S.armed = true
  left : S.left = (k : Int)
section
variable {S : DevS} {n N k i : Nat} {xs : List Int}
theorem CleanA.nl (h : CleanA S n xs N k) : S.lns.length = n := h.cl.nl
theorem CleanA.cur (h : CleanA S n xs N k) : S.cur = xs := h.cl.cur
theorem CleanA.pers (h : CleanA S n xs N k) : S.pers = xs := h.cl.pers
theorem CleanA.off (h : CleanA S n xs N k) : S.off = false := h.cl.off
theorem CleanA.err (h : CleanA S n xs N k) (j : Nat) : (S.thr j).err = 0 := h.cl.err j
theorem CleanA.good (h : CleanA S n xs N k) : Good S N := by
  have := h.cl.good.ctr S.off S.armed S.left S.exec
  exact this
theorem Clean.arm (h : Clean S n xs N) (k : Nat) : CleanA (S.arm (k : Int)) n xs N k := by
  have hA : S.arm (k : Int) = { S with armed := true, left := (k : Int) } := by
    unfold DevS.arm
    rw [h.off]
    have h1 : imax (k : Int) 0 = (k : Int) := by unfold imax; rw [if_neg (by omega)]
    simp [h1]
  rw [hA]
  refine ⟨⟨h.good.ctr _ _ _ _, h.nl, h.cur, h.pers, h.off, rfl, h.hist, h.err, h.notes⟩, rfl, rfl⟩
/-- Is an instruction one that an on device of that size counts? -/
def validI (S : DevS) (p : Ins) : Bool := if p.1 = 1 then S.wordB p.2.1 else if p.1 = 2 then S.inB p.2.1 else true
theorem armed_exec1 (ho : S.off = false) (ha : S.armed = true) (l : Nat) (hl : S.left = (l : Int) + 1) (p : Ins) (hv : validI S p = true) : S.exec1 i p = (S.disarm.exec1 i p).rearm (l : Int) := by
  obtain ⟨e1, e2⟩ := cnt_go ho ha (by rw [hl]; omega) i
  obtain ⟨f1, f2⟩ := cnt_ok (S := S.disarm) (i := i) ho rfl
  have e3 : S.left - 1 = (l : Int) := by omega
  unfold validI at hv
  unfold DevS.exec1
  by_cases h1 : p.1 = 1
  · rw [if_pos h1] at hv
    rw [if_pos h1, if_pos h1]
    have hv2 : S.disarm.wordB p.2.1 = true := hv
    unfold DevS.store
    rw [hv, hv2, e1, f1, if_pos rfl, if_pos rfl, e2, f2, e3, ha]
    rfl
  · rw [if_neg h1] at hv
    rw [if_neg h1, if_neg h1]
    by_cases h2 : p.1 = 2
    · rw [if_pos h2] at hv
      rw [if_pos h2, if_pos h2]
      have hv2 : S.disarm.inB p.2.1 = true := hv
      unfold DevS.flush
      rw [hv, hv2, e1, f1, if_pos rfl, if_pos rfl, e2, f2, e3, ha]
      rfl
    · rw [if_neg h2, if_neg h2]
      unfold DevS.fence
      rw [e1, f1, if_pos rfl, if_pos rfl, e2, f2, e3, ha]
      rfl
/-- The power fails at a counted instruction. -/
theorem cut_any (ho : S.off = false) (ha : S.armed = true) (hl : S.left = 0) (he : (S.thr i).err = 0) (p : Ins) (hv : validI S p = true) :
    (S.exec1 i p).off = true ∧ (S.exec1 i p).pers = S.pers ∧ (S.exec1 i p).lns = S.lns ∧ ((S.exec1 i p).thr i).err = 3 := by
  have hx := cnt_cut ho ha hl i
  have hf : S.cnt i true = DevS.fail { S with off := true } i 3 := by simp [DevS.cnt, DevS.onB, ho, ha, hl]
  have hy : ((S.cnt i true).thr i).err = 3 := by
    rw [hf]
    unfold DevS.fail
    rw [if_pos (show (({ S with off := true } : DevS).thr i).err = 0 from he)]
    simp [DevS.setErr]
  have hz := And.intro hx.2.1 (And.intro hx.2.2.1 (And.intro hx.2.2.2 hy))
  unfold validI at hv
  unfold DevS.exec1 DevS.store DevS.flush DevS.fence
  by_cases h1 : p.1 = 1
  · rw [if_pos h1] at hv
    rw [if_pos h1, hv, hx.1]
    exact hz
  · rw [if_neg h1] at hv
    rw [if_neg h1]
    by_cases h2 : p.1 = 2
    · rw [if_pos h2] at hv
      rw [if_pos h2, hv, hx.1]
      exact hz
    · rw [if_neg h2, hx.1]
      exact hz
theorem off_err (ho : S.off = true) (he : (S.thr i).err ≠ 0) (p : Ins) : ((S.exec1 i p).thr i).err = (S.thr i).err := by
  have hf : S.fail i 3 = S := by unfold DevS.fail; rw [if_neg he]
  have hx : ∀ b, ((S.cnt i b).thr i).err = (S.thr i).err := fun b => by rw [(cnt_off ho i b).2, hf]
  unfold DevS.exec1 DevS.store DevS.flush DevS.fence
  simp only [(cnt_off ho i _).1, Bool.false_eq_true, if_false]
  split
  · exact hx _
  · split
    · exact hx _
    · exact hx _
/-- A device whose power failed, with those persistent words, and at most that store beside them. -/
structure OffA (S : DevS) (n : Nat) (xs : List Int) (q : Nat) (val : Int) (N : Nat) : Prop where
  off : S.off = true
  pers : S.pers = xs
  nl : S.lns.length = n
  hist : ∀ (r : Nat) (l : Ln), S.lns[r]? = some l → l.hist = [] ∨ (r = q ∧ l.hist = [(64 * (q : Int), val)])
  good : Good S N
theorem storesPq (q : Nat) (val : Int) : storesP [(64 * (q : Int), val)] = [(1, 64 * (q : Int), val), (2, 64 * (q : Int), 0), (3, 0, 0)] := by
  have : startOf (64 * (q : Int)) = 64 * (q : Int) := by unfold startOf; omega
  simp [storesP, insSt, insFl, starts, cpt, this]
theorem Mid.ctrl {ws : List (Int × Int)} {ls : List Int} (h : Mid S i n xs ws ls N) (l : Int) : Mid (S.rearm l).disarm i n xs ws ls N :=
  ⟨h.good.ctr _ _ _ _, h.nl, h.cur, h.pers, h.off, rfl, h.hist, h.err, h.other, h.notes, h.note⟩
theorem Clean.ctrl (h : Clean S n xs N) (l : Int) : Clean (S.rearm l).disarm n xs N := ⟨h.good.ctr _ _ _ _, h.nl, h.cur, h.pers, h.off, rfl, h.hist, h.err, h.notes⟩
theorem line_hist {ls : List Int} {q : Nat} {val : Int} (h : Mid S i n xs [(64 * (q : Int), val)] ls N) (r : Nat) (l : Ln) (hl : S.lns[r]? = some l) : l.hist = [] ∨ (r = q ∧ l.hist = [(64 * (q : Int), val)]) := by
  have := h.hist r l hl
  by_cases hrq : r = q
  · right
    subst hrq
    refine ⟨rfl, ?_⟩
    rw [this, List.filter_cons_of_pos (by simp)]
    rfl
  · left
    rw [this, List.filter_cons_of_neg (by simp; omega)]
    rfl
/-- A program of one store to the first word of a line, on an armed device. -/
theorem CleanA.begin (h : CleanA S n xs N k) (hi : i < 8) (q : Nat) (hq : q < n) (val : Int) (hN : N + 3 < 1000000) :
    (3 ≤ k ∧ CleanA (S.runP i (storesP [(64 * (q : Int), val)])) n (xs.set (8 * q) val) (N + 3) (k - 3)) ∨
    (k < 3 ∧ OffA (S.runP i (storesP [(64 * (q : Int), val)])) n xs q val (N + 3) ∧ ((S.runP i (storesP [(64 * (q : Int), val)])).thr i).err = 3) := by
  have hG : Good (S.runP i (storesP [(64 * (q : Int), val)])) (N + 3) := by
    have := h.good.runP hi (storesP [(64 * (q : Int), val)]) (fun p hp => by
      rw [storesPq] at hp
      simp only [List.mem_cons, List.not_mem_nil, or_false] at hp
      rcases hp with rfl | rfl | rfl
      · show 0 ≤ 64 * (q : Int); omega
      · show 0 ≤ 64 * (q : Int); omega
      · exact Int.le_refl _) (by rw [storesPq]; simp; omega)
    rwa [storesPq] at this ⊢
  have hr : S.runP i (storesP [(64 * (q : Int), val)]) = ((S.exec1 i (1, 64 * (q : Int), val)).exec1 i (2, 64 * (q : Int), 0)).exec1 i (3, 0, 0) := by rw [storesPq]; rfl
  have hk8 : 8 * q < 8 * n := by omega
  have e8 : (8 : Int) * ((8 * q : Nat) : Int) = 64 * (q : Int) := by omega
  have hv1 : validI S (1, 64 * (q : Int), val) = true := by simp [validI, DevS.wordB, h.nl]; omega
  have m1 := (h.cl.mid i).store hk8 val
  rw [e8, List.nil_append] at m1
  by_cases k0 : k = 0
  · right
    obtain ⟨b1, b2, b3, b4⟩ := cut_any h.off h.armed (by rw [h.left, k0]; rfl) (h.err i) _ hv1
    obtain ⟨c1, c2, c3⟩ := off_exec1 b1 i (2, 64 * (q : Int), 0)
    have c4 := off_err b1 (by rw [b4]; decide) (2, 64 * (q : Int), 0)
    obtain ⟨d1, d2, d3⟩ := off_exec1 c1 i (3, 0, 0)
    have d4 := off_err c1 (by rw [c4, b4]; decide) (3, 0, 0)
    rw [hr] at hG ⊢
    refine ⟨by omega, ⟨d1, by rw [d2, c2, b2]; exact h.pers, by rw [d3, c3, b3]; exact h.nl, fun r l hl => .inl ?_, hG⟩, by rw [d4, c4, b4]⟩
    rw [d3, c3, b3] at hl
    exact h.cl.hist r l hl
  · have s1 := armed_exec1 (i := i) h.off h.armed (k - 1) (by rw [h.left]; omega) _ hv1
    have y1 : S.disarm.exec1 i (1, 64 * (q : Int), val) = S.disarm.store i (64 * (q : Int)) val := rfl
    obtain ⟨A, hA⟩ : ∃ A, S.disarm.store i (64 * (q : Int)) val = A := ⟨_, rfl⟩
    rw [y1, hA] at s1
    rw [hA] at m1
    have m1' := m1.ctrl ((k - 1 : Nat) : Int)
    obtain ⟨S1, hS1⟩ : ∃ S1, A.rearm ((k - 1 : Nat) : Int) = S1 := ⟨_, rfl⟩
    have o1 : S1.off = false := by rw [← hS1]; exact m1.off
    have a1 : S1.armed = true := by rw [← hS1]; rfl
    have l1 : S1.left = ((k - 1 : Nat) : Int) := by rw [← hS1]; rfl
    have r1 : ∀ j, (S1.thr j).err = 0 := by rw [← hS1]; exact m1.err
    rw [hS1] at s1 m1'
    have hv2 : validI S1 (2, 64 * (q : Int), 0) = true := by
      have : S1.lns.length = n := m1'.nl
      simp [validI, DevS.inB, this]
      omega
    rw [hr, s1] at hG ⊢
    by_cases k1 : k = 1
    · right
      obtain ⟨c1, c2, c3, c4⟩ := cut_any (i := i) o1 a1 (by rw [l1]; omega) (r1 i) _ hv2
      obtain ⟨d1, d2, d3⟩ := off_exec1 c1 i (3, 0, 0)
      have d4 := off_err c1 (by rw [c4]; decide) (3, 0, 0)
      refine ⟨by omega, ⟨d1, by rw [d2, c2]; exact m1'.pers, by rw [d3, c3]; exact m1'.nl, fun r l hl => ?_, hG⟩, by rw [d4, c4]⟩
      rw [d3, c3] at hl
      exact line_hist m1' r l hl
    · have s2 := armed_exec1 (i := i) o1 a1 (k - 2) (by rw [l1]; omega) _ hv2
      have y2 : S1.disarm.exec1 i (2, 64 * (q : Int), 0) = S1.disarm.flush i (64 * (q : Int)) := rfl
      have m2 := m1'.flush hq (by omega)
      rw [List.nil_append] at m2
      obtain ⟨B, hB⟩ : ∃ B, S1.disarm.flush i (64 * (q : Int)) = B := ⟨_, rfl⟩
      rw [y2, hB] at s2
      rw [hB] at m2
      have m2' := m2.ctrl ((k - 2 : Nat) : Int)
      obtain ⟨S2, hS2⟩ : ∃ S2, B.rearm ((k - 2 : Nat) : Int) = S2 := ⟨_, rfl⟩
      have o2 : S2.off = false := by rw [← hS2]; exact m2.off
      have a2 : S2.armed = true := by rw [← hS2]; rfl
      have l2 : S2.left = ((k - 2 : Nat) : Int) := by rw [← hS2]; rfl
      have r2 : ∀ j, (S2.thr j).err = 0 := by rw [← hS2]; exact m2.err
      rw [hS2] at s2 m2'
      have hv3 : validI S2 (3, 0, 0) = true := by simp [validI]
      rw [s2] at hG ⊢
      by_cases k2 : k = 2
      · right
        obtain ⟨c1, c2, c3, c4⟩ := cut_any (i := i) o2 a2 (by rw [l2]; omega) (r2 i) _ hv3
        refine ⟨by omega, ⟨c1, by rw [c2]; exact m2'.pers, by rw [c3]; exact m2'.nl, fun r l hl => ?_, hG⟩, c4⟩
        rw [c3] at hl
        exact line_hist m2' r l hl
      · left
        have s3 := armed_exec1 (i := i) o2 a2 (k - 3) (by rw [l2]; omega) _ hv3
        have y3 : S2.disarm.exec1 i (3, 0, 0) = S2.disarm.fence i := rfl
        have m3 := m2'.fence hi (by omega) (fun p hp => by
          have : p = (64 * (q : Int), val) := by simpa using hp
          subst this
          exact ⟨by show 0 ≤ 64 * (q : Int); omega, by show startOf (64 * (q : Int)) ∈ _; unfold startOf; simp⟩)
        rw [s3, y3]
        have ea : applyW xs [(64 * (q : Int), val)] = xs.set (8 * q) val := by
          simp only [applyW, List.foldl_cons, List.foldl_nil]
          congr 1
          omega
        rw [ea] at m3
        exact ⟨by omega, m3.ctrl _, rfl, rfl⟩
end
end Go.Proofs.YtlbgmoijepknbaaGreat

namespace Go.Proofs.YtlbgmoijepknbaaGreat
open Go.RowKit
set_option linter.unusedVariables false

/-- What Crash leaves: a new device, whose words are persistent words of a crash image. -/
def CrashPost (w : World) (S : DevS) (n : Nat) (e : Ending) (w' : World) : Prop :=
  ∃ d L K, e = .returned (.pointer (some ⟨d, 0, none⟩)) ∧ (∀ q l, S.lns[q]? = some l → K q ≤ l.hist.length) ∧ Dev w' d L (newS (S.upto K).pers n) ∧ (∀ b, Fp L b → w.heap.size ≤ b) ∧ Below w.heap.size w w'
set_option maxRecDepth 100000 in
set_option maxHeartbeats 2000000 in
theorem devCrash (w : World) (d : Nat) (S : DevS) (n : Nat) (h1 : 1 ≤ n) (h2 : n ≤ 4096) (hp : S.pers.length = 8 * n) (hf : ∀ K, (∀ q l, S.lns[q]? = some l → K q ≤ l.hist.length) → Fits (S.upto K).pers) (A : Option Addr) (m c : Nat)
    (hI : Calls Tryz.prog 32 #[.pointer (some ⟨d, 0, none⟩), .slice A m c] w (ImgPost w S)) :
    Calls Tryz.prog 13 #[.pointer (some ⟨d, 0, none⟩), .slice A m c] w (CrashPost w S n) := by
  have HI := Lib.hid hI
  have HF := Lib.hid hf
  have HP := Lib.hid hp
  clear hI hf hp
  go_enter Tryz.func13, Tryz.ntmps13
  go_wp2_with (first
    | (go_at_call 32; refine HI.out.mono ?_; rintro e w1 ⟨g, K, rfl, hK, hb, hg, hB⟩; rw [HP.out, show 8 * (8 * n) = 64 * n by omega]; have HK := Lib.hid hK; have HB := Lib.hid hb; have HG := Lib.hid hg; have HBL := Lib.hid hB; clear hK hb hg hB)
    | (go_at_call 31; refine (devFrom w1 (some ⟨g, 0, none⟩) n _ (S.upto K).pers h1 h2 (by rw [(length_upto K).1]; exact HP.out) (HF.out K HK.out) (.inr ⟨g, 0, rfl, HB.out.lt, fun i hi => by rw [Nat.zero_add]; exact HB.out.cell hi⟩)).mono ?_; rintro e w2 ⟨d2, L2, rfl, hD, hB2, hF2⟩; have HD := Lib.hid hD; have HB2 := Lib.hid hB2; have HF2 := Lib.hid hF2; clear hD hB2 hF2))
  go_ret
  exact ⟨d2, L2, K, rfl, HK.out, HD.out, fun b hb => Nat.le_trans HBL.out.size (HF2.out b hb), HBL.out.trans (HB2.out.mono HBL.out.size)⟩
end Go.Proofs.YtlbgmoijepknbaaGreat

namespace Go.Proofs.YtlbgmoijepknbaaGreat
open Go.RowKit
set_option linter.unusedVariables false

theorem imgK_le (S : DevS) (cs : List Int) (q : Nat) (l : Ln) (hl : S.lns[q]? = some l) : imgK S cs q ≤ l.hist.length := by
  unfold imgK
  have : hlen S q = l.hist.length := by unfold hlen; rw [hl]; rfl
  rw [this]
  have := Nat.mod_lt ((cs[(dirtyL S S.lns.length).idxOf q % cs.length]?.getD 0).toNat) (show 0 < l.hist.length + 1 by omega)
  omega
set_option maxRecDepth 100000 in
set_option maxHeartbeats 4000000 in
theorem devImage_some (w : World) (d : Nat) (L : Lay) (S : DevS) (N : Nat) (h : Dev w d L S) (hG : Good S N) (hN6 : N < 1000000) (hf : ∀ K, (∀ q l, S.lns[q]? = some l → K q ≤ l.hist.length) → Fits (S.upto K).pers) (A : Option Addr) (m c : Nat) (cs : List Int) (hm : cs.length = m) (hm0 : 0 < m) (hm1 : m ≤ 9223372036854775807) (hR : Rd .u8 w A cs) (hcs : ∀ x ∈ cs, 0 ≤ x ∧ x < 256) :
    Calls Tryz.prog 32 #[.pointer (some ⟨d, 0, none⟩), .slice A m c] w (ImgPost w S) := by
  have d0 : w.cell? ⟨d, 0, none⟩ = some (.slice (some ⟨L.pb, 0, none⟩) S.pers.length L.pc) := h.dev.cell_some (i := 0) rfl
  have d2 := h.lcell
  have dl := h.lt
  have hn := h.nl
  have hp := h.np
  obtain ⟨bl, hcb, hsz, hbl⟩ := h.lin
  have lbl := hcb.lt
  have HCL0 : Hid (∀ q, q < S.lns.length → w.cell? ⟨L.lb, q * 2 + 1, none⟩ = some (.slice (L.ha q) (hlen S q) (L.hc q))) := by
    intro q hq
    rw [hcb.cell, show q * 2 + 1 = 2 * q + 1 by omega, (hbl q hq).2]
    unfold hlen
    rw [List.getElem?_eq_getElem hq]; rfl
  have HHIS : Hid (∀ q, q < S.lns.length → Sl 48 2 w (L.ha q) (hlen S q) (L.hc q) (wcells (histL S q))) := by
    intro q hq
    have := h.his q hq
    unfold hlen histL
    rw [List.getElem?_eq_getElem hq]
    exact this
  have HCL := Lib.hid (cloneU w L.pb 0 S.pers.length L.pc S.pers rfl (by omega) (by omega) h.pers.rdW)
  have HDI := Lib.hid (fun (W : World) (hW : Below w.heap.size w W) => devDirty W d L S (h.below hW))
  have HGD := Lib.hid hG
  have HF := Lib.hid hf
  have HR := Lib.hid hR
  have HM := Lib.hid hm
  have HCS := Lib.hid hcs
  have HIA := Lib.hid (imgC_all hG (imgK S cs))
  obtain ⟨n, hnn⟩ : ∃ n, S.pers.length = n := ⟨_, rfl⟩
  have HN := Lib.hid hnn
  have hn5 : n ≤ 32768 := by omega
  obtain ⟨D, hD⟩ : ∃ D, dirtyL S S.lns.length = D := ⟨_, rfl⟩
  have HDD := Lib.hid hD
  have hDl : D.length ≤ 4096 := by rw [← hD]; have := dirtyL_le S S.lns.length; omega
  rw [hD] at HIA
  unfold DirtyPost at HDI
  rw [hD] at HDI
  unfold ImgPost
  obtain ⟨ln, hln⟩ : ∃ ln, S.lns.length = ln := ⟨_, rfl⟩
  have HLN := Lib.hid hln
  rw [hnn] at d0 HCL ⊢
  rw [hln] at d2 HCL0 HHIS hn
  have hm0' : (m : Int) > 0 := by omega
  clear h hG hf hR hm hcs hcb hsz hbl hnn hD hln hp
  go_enter Tryz.func32, Tryz.ntmps32
  go_wp2_with (first
    | (go_at_call 37; refine HCL.out.mono ?_; rintro e w1 ⟨g, c1, rfl, hS, hg, hb⟩; have HS := Lib.hid hS; have HB := Lib.hid hb; have HG := Lib.hid hg; clear hS hb hg)
    | (go_at_call 40; refine (HDI.out w1 HB.out).mono ?_; rintro e w2 ⟨A2, c2, rfl, hS2, hO2, hb2⟩; have HS2 := Lib.hid hS2; have HB2 := Lib.hid hb2; have HO2 := Lib.hid hO2; clear hS2 hb2 hO2))
  have hgl : g < w1.heap.size := HS.out.lt (by simp [OwnB])
  have HI0 : Hid (Sl 34 1 w2 (some ⟨g, 0, none⟩) n c1 (uints (imgC S (imgK S cs) D 0)) ∧ Ch (At g) w2 w2) := ⟨HS.out.keep (fun b hb => HB2.out.block b (HS.out.lt hb)), Ch.refl _ _⟩
  have hb12 : Below w.heap.size w w2 := HB.out.trans (HB2.out.mono HB.out.size)
  have HBW := Lib.hid hb12
  clear hb12
  go_loopw [23, 6, 7, 8, 9, 24, 25, 26, 27, 28, 29, 30, 31, 32, 33, 34, 35, 36, 37, 38, 39, 40, 41, 42, 43, 44, 45, 46, 47, 48, 49, 50, 51, 52, 53] (fun i _ _ _ _ _ _ _ _ _ _ _ _ _ _ _ _ _ _ _ _ _ _ _ _ _ _ _ _ _ _ _ _ _ _ wr => ∃ k : Nat, k ≤ D.length ∧ i = .int .i64 k ∧ Sl 34 1 wr (some ⟨g, 0, none⟩) n c1 (uints (imgC S (imgK S cs) D k)) ∧ Ch (At g) w2 wr) (fun i _ _ _ _ _ _ _ _ _ _ _ _ _ _ _ _ _ _ _ _ _ _ _ _ _ _ _ _ _ _ _ _ _ _ _ => D.length - (intOf i).toNat)
  case atStart => exact ⟨0, by omega, rfl, HI0.out⟩
  case round =>
    clear HI0
    obtain ⟨k, hk, rfl, hS, hC⟩ := hrel
    have hgw : w.heap.size ≤ g := HG.out
    have hbr : Below w.heap.size w wr := HBW.out.trans (hC.to_below HBW.out.size (fun b hb => by rw [show b = g from hb]; exact hgw))
    have HBR := Lib.hid hbr
    have HSW := Lib.hid hS
    have HC := Lib.hid hC
    clear hS
    by_cases hlt : k < D.length
    · have hlt' : (k : Int) < (D.length : Int) := by omega
      -- the line
      obtain ⟨gd, od, hA2, hgdl, hcd⟩ := HS2.out.at_ (j := k) (by rw [length_nints]; exact hlt)
      have hgd : gd ≠ g := by have := HO2.out gd (by rw [hA2]; simp [OwnB]); omega
      have hcd' : wr.cell? ⟨gd, od + k, none⟩ = some (.int .i64 (D[k] : Int)) := by
        rw [hC.cells gd _ hgdl (fun h => hgd h), hcd]
        simp [nints]
      have hmem : D[k] ∈ dirtyL S S.lns.length := by rw [HDD.out]; exact List.getElem_mem hlt
      obtain ⟨hq1, hq2⟩ := mem_dirtyL.1 hmem
      have hidx : (dirtyL S S.lns.length).idxOf D[k] = k := by
        have hnd := nodup_dirtyL S S.lns.length
        rw [HDD.out] at hnd ⊢
        exact hnd.idxOf_getElem k hlt
      have HST := Lib.hid (imgC_step S (imgK S cs) D k hlt)
      have hKq : imgK S cs D[k] = (cs[k % m]?.getD 0).toNat % (hlen S D[k] + 1) := by unfold imgK; rw [hidx, HM.out]
      obtain ⟨q, hq⟩ : ∃ q, D[k] = q := ⟨_, rfl⟩
      rw [hq] at hcd' hq1 hq2 HST hKq
      rw [HLN.out] at hq1
      have hkm : k % m < cs.length := by rw [HM.out]; exact Nat.mod_lt _ hm0
      obtain ⟨gc, oc, hAc, hgcl, hcc⟩ := HR.out.at_ hkm
      have hcr := HCS.out _ (List.getElem_mem hkm)
      rw [List.getElem?_eq_getElem hkm] at hKq
      obtain ⟨cv, hcv⟩ : ∃ cv, cs[k % m] = cv := ⟨_, rfl⟩
      rw [hcv] at hcc hcr hKq
      simp only [Option.getD_some] at hKq
      have hcc' : wr.cell? ⟨gc, oc + k % m, none⟩ = some (.int .u8 cv) := (hbr.cell (p := ⟨gc, oc + k % m, none⟩) hgcl).trans hcc
      -- the history
      have hHq := HHIS.out q hq1
      obtain ⟨hl, hhl⟩ : ∃ hl, hlen S q = hl := ⟨_, rfl⟩
      have hhl2 := hlen_histL S q
      rw [hhl] at hHq hq2 hKq hhl2
      obtain ⟨gh, oh, hAh, hghl, _⟩ := hHq.at_ (j := 0) (by rw [length_wcells, hhl2]; omega)
      have hlc := HCL0.out q hq1
      rw [hhl, hAh] at hlc
      rw [hAh] at hHq
      obtain ⟨ch, hch⟩ : ∃ ch, L.hc q = ch := ⟨_, rfl⟩
      rw [hch] at hlc hHq
      have hmc : hl ≤ ch ∧ ch ≤ maxLen := by
        rcases hHq.2 with ⟨hx, _⟩ | ⟨_, _, _, _, _, y1, y2, _⟩
        · cases hx
        · exact ⟨y1, y2⟩
      have hmx : ch ≤ 9223372036854775807 := by have := hmc.2; unfold maxLen at this; omega
      have hmc1 := hmc.1
      obtain ⟨kk, hkk⟩ : ∃ kk, imgK S cs q = kk := ⟨_, rfl⟩
      have hkl : kk ≤ hl := by rw [← hkk, hKq]; have := Nat.mod_lt cv.toNat (show 0 < hl + 1 by omega); omega
      have hki : cv % ((hl : Int) + 1) = (kk : Int) := by
        obtain ⟨x, hx⟩ := Int.eq_ofNat_of_zero_le hcr.1
        rw [← hkk, hKq, hx, Int.toNat_natCast, show ((hl : Int) + 1) = ((hl + 1 : Nat) : Int) by omega, ← Int.natCast_emod]
      rw [hkk] at HST
      have hd2 : wr.cell? ⟨d, 2, none⟩ = some (.slice (some ⟨L.lb, 0, none⟩) ln ln) := (hbr.cell (p := ⟨d, 2, none⟩) dl).trans d2
      have hlc' : wr.cell? ⟨L.lb, q * 2 + 1, none⟩ = some (.slice (some ⟨gh, oh, none⟩) hl ch) := (hbr.cell (p := ⟨L.lb, q * 2 + 1, none⟩) lbl).trans hlc
      have hdl' : d < wr.heap.size := Nat.lt_of_lt_of_le dl hbr.size
      have hll' : L.lb < wr.heap.size := Nat.lt_of_lt_of_le lbl hbr.size
      have hq1' : (q : Int) < (ln : Int) := by omega
      have HAP : Hid (Calls Tryz.prog 41 #[.slice (some ⟨g, 0, none⟩) n c1, .slice (some ⟨gh, oh, none⟩) kk ch] wr fun e w' => e = .returned (.tuple #[]) ∧ Sl 34 1 w' (some ⟨g, 0, none⟩) n c1 (uints (applyW (imgC S (imgK S cs) D k) ((histL S q).take kk))) ∧ Ch (At g) wr w') := by
        refine devApply wr g n c1 kk ch _ (some ⟨gh, oh, none⟩) ((histL S q).take kk) HSW.out (by rw [length_imgC]; exact HN.out) ?_ (by rw [List.length_take, hhl2]; omega) (by simp [OwnB]; intro h; rw [h] at hghl; omega) (fun p hp => ?_) (by omega) hn5
        · have := (hHq.keep (fun b hb => hbr.block b (hHq.lt hb))).take kk hkl
          rwa [wcells_take] at this
        · obtain ⟨j, hj1, hj2⟩ := hist_line HGD.out q p (List.mem_of_mem_take hp)
          have := HGD.out.np
          rw [HN.out, HLN.out] at this
          omega
      have hcv1 : cv < 256 := hcr.2
      have hcv0 : 0 ≤ cv := hcr.1
      have hl9 : hl ≤ 1000000 := by
        have hqq : q < S.lns.length := by rw [HLN.out]; exact hq1
        have h1 := HGD.out.ln q _ (List.getElem?_eq_getElem hqq)
        have h2 : S.lns[q].hist.length = hl := by rw [← hhl]; unfold hlen; rw [List.getElem?_eq_getElem hqq]; rfl
        omega
      have hb1 : (k : Int) % (m : Int) < (m : Int) := Int.emod_lt_of_pos _ (by omega)
      have hb0 : 0 ≤ (k : Int) % (m : Int) := Int.emod_nonneg _ (by omega)
      subst hA2 hAc
      clear hbr hC hcd hcc hlc hmem hidx hKq hkk hmc d0 d2
      go_wp2_with (go_at_call 41; refine HAP.out.mono ?_; rintro e w4 ⟨rfl, hS4, hC4⟩; have HS4 := Lib.hid hS4; have HC4 := Lib.hid hC4; clear hS4 hC4)
      refine ⟨⟨k + 1, by omega, by go_num, by rw [HST.out]; exact HS4.out, HC.out.trans HC4.out (fun _ h _ => h)⟩, by simp [intOf]; omega⟩
    · obtain rfl : k = D.length := by omega
      have hI9 := HSW.out
      rw [HIA.out] at hI9
      have HI9 := Lib.hid hI9
      clear hI9 hbr hC
      have HBO := Lib.hid (bytesOfD wr (some ⟨g, 0, none⟩) n c1 (S.upto (imgK S cs)).pers (by rw [(length_upto _).1]; exact HN.out) hn5 (HF.out _ (fun q l hl => imgK_le S cs q l hl)) HI9.out.rdW)
      go_wp2_with (go_at_call 42; refine HBO.out.mono ?_; rintro e w3 ⟨g2, rfl, hI2, hg2, hb2⟩; have HI2 := Lib.hid hI2; have HB3 := Lib.hid hb2; have HG2 := Lib.hid hg2; clear hI2 hb2 hg2)
      go_ret
      exact ⟨g2, imgK S cs, rfl, fun q l hl => imgK_le S cs q l hl, HI2.out, Nat.le_trans HBR.out.size HG2.out, HBR.out.trans (HB3.out.mono HBR.out.size)⟩
end Go.Proofs.YtlbgmoijepknbaaGreat
