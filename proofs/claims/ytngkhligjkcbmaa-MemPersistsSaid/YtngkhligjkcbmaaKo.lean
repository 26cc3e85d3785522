/- Overlays and the fresh device (merged). -/
import Derived.Test.YtngkhligjkcbmaaKd
import Derived.Test.YtngkhligjkcbmaaStr
import Derived.Test.YtngkhligjkcbmaaLib
import Derived.Laws.BitsAllLaws
import Derived.Deep.Cut
import Derived.Test.YtngkhligjkcbmaaTail
import Derived.Deep.RegionLaw
import Derived.Lib.Small
namespace Go.Proofs.Ytngkhligjkcbmaa
open Go.RowKit
set_option linter.unusedVariables false

theorem pcells_cons (p : Ins) (ps : List Ins) : pcells (p :: ps) = .int .u8 p.1 :: .int .u64 p.2.1 :: .int .u64 p.2.2 :: pcells ps := by simp [pcells]
theorem pcells_append (ps qs : List Ins) : pcells (ps ++ qs) = pcells ps ++ pcells qs := by simp [pcells]
theorem length_pcells (ps : List Ins) : (pcells ps).length = ps.length * 3 := by
  induction ps with
  | nil => rfl
  | cons p ps ih => rw [pcells_cons, List.length_cons, List.length_cons, List.length_cons, ih, List.length_cons]; omega
theorem pcells_get (ps : List Ins) : ∀ (k : Nat) (h : k < ps.length), (pcells ps)[k * 3]? = some (.int .u8 ps[k].1) ∧ (pcells ps)[k * 3 + 1]? = some (.int .u64 ps[k].2.1) ∧ (pcells ps)[k * 3 + 2]? = some (.int .u64 ps[k].2.2) := by
  induction ps with
  | nil => intro k h; simp at h
  | cons p ps ih =>
    intro k h
    cases k with
    | zero => simp [pcells]
    | succ k =>
      have := ih k (by simpa using h)
      rw [pcells_cons, show (k + 1) * 3 = k * 3 + 1 + 1 + 1 by omega]
      simpa using this
/-- One instruction of a program. -/
theorem Sl.ins {w : World} {A : Option Addr} {m c : Nat} {ps : List Ins} (h : Sl 32 3 w A m c (pcells ps)) {k : Nat} (hk : k < ps.length) :
    ∃ g off, A = some ⟨g, off, none⟩ ∧ g < w.heap.size ∧ w.cell? ⟨g, off + k * 3, none⟩ = some (.int .u8 ps[k].1) ∧ w.cell? ⟨g, off + k * 3 + 1, none⟩ = some (.int .u64 ps[k].2.1) ∧ w.cell? ⟨g, off + k * 3 + 2, none⟩ = some (.int .u64 ps[k].2.2) := by
  obtain ⟨e1, e2, e3⟩ := pcells_get ps k hk
  obtain ⟨g, off, hA, hl, _⟩ := h.at_ (j := k * 3) (by rw [length_pcells]; omega)
  have c1 := h.cells _ hA _ _ e1
  have c2 := h.cells _ hA _ _ e2
  have c3 := h.cells _ hA _ _ e3
  have h1 : ∀ j, (⟨g, off, none⟩ : Addr).add j = ⟨g, off + j, none⟩ := by intro j; unfold Addr.add; split <;> simp_all
  rw [h1] at c1 c2 c3
  exact ⟨g, off, hA, hl, c1, c2, c3⟩
def insB (p : Ins) : Bool := decide (1 ≤ p.1) && decide (p.1 ≤ 3)

set_option maxRecDepth 100000 in
set_option maxHeartbeats 1000000 in
theorem memValid (w : World) (A : Option Addr) (n c : Nat) (ps : List Ins) (hn : ps.length = n) (hm : n ≤ 1000000000) (hS : Sl 32 3 w A n c (pcells ps)) :
    Calls Try.prog 77 #[.slice A n c] w fun e w' => e = .returned (.bool (ps.all insB)) ∧ Below w.heap.size w w' := by
  have HN := Lib.hid hn
  have HS := Lib.hid hS
  clear hn hS
  go_enter Try.func77, Try.ntmps77
  go_wp2
  go_loopw [7, 4, 8, 9, 10, 11, 12, 13, 14, 15, 16, 17, 18, 19] (fun i _ _ _ _ _ _ _ _ _ _ _ _ _ wr => ∃ k : Nat, k ≤ n ∧ i = .int .i64 k ∧ (ps.take k).all insB = true ∧ Below w.heap.size w wr) (fun i _ _ _ _ _ _ _ _ _ _ _ _ _ _ => n - (intOf i).toNat)
  case atStart => exact ⟨0, by omega, rfl, by simp, Below.refl _ _⟩
  case round =>
    obtain ⟨k, hk, rfl, hall, hB⟩ := hrel
    have HA := Lib.hid hall
    have HB := Lib.hid hB
    by_cases hlt : k < n
    · have hkl : k < ps.length := by rw [HN.out]; exact hlt
      obtain ⟨g, off, hA', hl, c1, c2, c3⟩ := (HS.out.keep (fun b hb => hB.block b (HS.out.lt hb))).ins hkl
      obtain ⟨⟨op, of, v⟩, hp⟩ : ∃ p, ps[k] = p := ⟨_, rfl⟩
      rw [hp] at c1 c2 c3
      have HP := Lib.hid hp
      subst hA'
      clear hall hB hp
      have hgn : ¬ g = wr.heap.size := by omega
      by_cases h1 : op < 1
      · have HR : Hid (ps.all insB = false) := all_false insB ps k hkl (by rw [HP.out]; simp [insB]; omega)
        go_wp2
        go_ret
        rw [HR.out]
        exact ⟨rfl, by have := HB.out; (repeat (first | with_reducible exact Below.refl _ _ | with_reducible refine bl_alloc ?_ _ | with_reducible refine bl_drew ?_ | with_reducible refine bl_drewN ?_ _ | with_reducible refine bl_bx ?_ _ | with_reducible exact BX.below _ | with_reducible refine bl_set ?_ (by first | (exact Nat.le_refl _) | (simp; done) | (simp; omega)) _ | assumption))⟩
      · by_cases h3 : 3 < op
        · have HR : Hid (ps.all insB = false) := all_false insB ps k hkl (by rw [HP.out]; simp [insB]; omega)
          go_wp2
          go_ret
          rw [HR.out]
          exact ⟨rfl, by have := HB.out; (repeat (first | with_reducible exact Below.refl _ _ | with_reducible refine bl_alloc ?_ _ | with_reducible refine bl_drew ?_ | with_reducible refine bl_drewN ?_ _ | with_reducible refine bl_bx ?_ _ | with_reducible exact BX.below _ | with_reducible refine bl_set ?_ (by first | (exact Nat.le_refl _) | (simp; done) | (simp; omega)) _ | assumption))⟩
        · go_wp2
          go_roundw
          case rel => exact ⟨k + 1, by omega, by go_num, all_take_succ insB ps k hkl HA.out (by rw [HP.out]; simp [insB]; omega), by have := HB.out; (repeat (first | with_reducible exact Below.refl _ _ | with_reducible refine bl_alloc ?_ _ | with_reducible refine bl_drew ?_ | with_reducible refine bl_drewN ?_ _ | with_reducible refine bl_bx ?_ _ | with_reducible exact BX.below _ | with_reducible refine bl_set ?_ (by first | (exact Nat.le_refl _) | (simp; done) | (simp; omega)) _ | assumption))⟩
          case measure => simp [intOf]; omega
    · clear hall hB
      have HR : Hid (ps.all insB = true) := all_take_all insB ps k (by rw [HN.out]; exact hlt) HA.out
      go_wp2
      go_ret
      rw [HR.out]
      exact ⟨rfl, HB.out⟩

/-- What Run leaves. -/
def RunPost (F : Nat → Prop) (d : Nat) (t : Nat → Nat) (i : Nat) (S : DevS) (ps : List Ins) (w : World) (e : Ending) (w' : World) : Prop :=
  e = .returned (.int .i64 ((S.runP i ps).thr i).err) ∧ DV F d t w' (S.runP i ps) ∧ Ch F w w'

set_option maxRecDepth 100000 in
set_option maxHeartbeats 2000000 in
theorem memRun {F : Nat → Prop} {d : Nat} {t : Nat → Nat} (w : World) {S : DevS} {N : Nat} (h : DV F d t w S) (i : Nat) (hi : i < 8) (hG : Good S N) (A : Option Addr) (n c : Nat) (ps : List Ins) (hn : ps.length = n) (hS : Sl 32 3 w A n c (pcells ps)) (hA : ∀ b, OwnB A b → ¬ F b)
    (hN : N + n < 1000000) (hps : ∀ p ∈ ps, insB p = true ∧ 0 ≤ p.2.1 ∧ p.2.1 < 18446744073709551616) :
    Calls Try.prog 37 #[.slice A n c, .iface 49 (.pointer (some ⟨t i, 0, none⟩))] w (RunPost F d t i S ps w) := by
  have H := Lib.hid h
  have HG := Lib.hid hG
  have HNN := Lib.hid hn
  have HS := Lib.hid hS
  have HA := Lib.hid hA
  have HPS := Lib.hid hps
  have HV : Hid (Calls Try.prog 77 #[.slice A n c] w fun e w' => e = .returned (.bool true) ∧ Below w.heap.size w w') := by
    have := memValid w A n c ps hn (by omega) hS
    rwa [show ps.all insB = true from List.all_eq_true.2 fun p hp => (hps p hp).1] at this
  clear h hG hn hS hA hps
  go_enter Try.func37, Try.ntmps37
  go_wp2_with (first | (go_at_call 77; refine HV.out.mono ?_; rintro e w1 ⟨rfl, hb⟩; obtain ⟨x, rfl⟩ := bx_of hb; clear hb))
  have HI0 : Hid (DV F d t x.w S ∧ Ch F w x.w) := ⟨H.out.bx x, Ch.of_below x.below⟩
  obtain ⟨w1, hw1⟩ : ∃ w1, x.w = w1 := ⟨_, rfl⟩
  rw [hw1] at HI0 ⊢
  clear hw1 HV
  go_loopw [16, 6, 17, 18, 19, 20, 21, 22, 23] (fun i' _ _ _ _ _ _ _ _ wr => ∃ k : Nat, k ≤ n ∧ i' = .int .i64 k ∧ DV F d t wr (S.runP i (ps.take k)) ∧ Ch F w wr) (fun i' _ _ _ _ _ _ _ _ _ => n - (intOf i').toNat)
  case atStart => exact ⟨0, by omega, rfl, HI0.out.1, HI0.out.2⟩
  case round =>
    obtain ⟨k, hk, rfl, hD, hC⟩ := hrel
    have HD := Lib.hid hD
    have HC := Lib.hid hC
    by_cases hlt : k < n
    · have hkl : k < ps.length := by rw [HNN.out]; exact hlt
      obtain ⟨g, off, hA', hl, c1, c2, c3⟩ := (HS.out.ch hC HA.out).ins hkl
      obtain ⟨⟨op, of, v⟩, hp⟩ : ∃ p, ps[k] = p := ⟨_, rfl⟩
      rw [hp] at c1 c2 c3
      have hpp := HPS.out _ (List.getElem_mem hkl)
      rw [hp] at hpp
      have HP := Lib.hid hp
      have hgF : ¬ F g := HA.out g (by rw [hA']; simp [OwnB])
      subst hA'
      have HGk : Hid (Good (S.runP i (ps.take k)) (N + k)) := by
        have := Good.runP hi (ps.take k) HG.out (fun p hp => (HPS.out p (List.mem_of_mem_take hp)).2.1) (by rw [List.length_take]; omega)
        rwa [List.length_take, Nat.min_eq_left (by omega)] at this
      have hop : 1 ≤ op ∧ op ≤ 3 := by have := hpp.1; simpa [insB] using this
      have HOF := Lib.hid hpp.2
      have hgn : ¬ g = wr.heap.size := by omega
      clear hD hC hp hpp
      go_wp2_with (first | (go_at_call 79; refine (memExec _ (HD.out.below (by (repeat (first | with_reducible exact Below.refl _ _ | with_reducible refine bl_alloc ?_ _ | with_reducible refine bl_drew ?_ | with_reducible refine bl_drewN ?_ _ | with_reducible refine bl_bx ?_ _ | with_reducible exact BX.below _ | with_reducible refine bl_set ?_ (by first | (exact Nat.le_refl _) | (simp; done) | (simp; omega)) _ | assumption)))) i hi HGk.out (by omega) op of v HOF.out hop).mono ?_; rintro e w2 ⟨rfl, hD2, hC2⟩; have HD2 := Lib.hid hD2; have HC2 := Lib.hid hC2; clear hD2 hC2))
      go_roundw
      case rel =>
        refine ⟨k + 1, by omega, by go_num, ?_, (HC.out.alloc _).trans HC2.out (fun _ h _ => h)⟩
        rw [List.take_succ_eq_append_getElem hkl, runP_snoc, HP.out]
        exact HD2.out
      case measure => simp [intOf]; omega
    · obtain rfl : k = n := by omega
      clear hD hC
      have hE : ps.take k = ps := List.take_of_length_le (by rw [HNN.out]; omega)
      rw [hE] at HD
      have HER : Hid (Calls Try.prog 51 #[.pointer (some ⟨t i, 0, none⟩)] wr fun e w' => e = .returned (.int .i64 ((S.runP i ps).thr i).err) ∧ wr = w') := by
        obtain ⟨_, L, rfl, h3, _⟩ := HD.out
        exact thErr wr d L _ h3 i hi
      clear hE
      go_wp2_with (first | (go_at_call 51; refine HER.out.mono ?_; rintro e w2 ⟨rfl, rfl⟩))
      go_ret
      exact ⟨rfl, HD.out, HC.out⟩
end Go.Proofs.Ytngkhligjkcbmaa

namespace Go.Proofs.Ytngkhligjkcbmaa
open Go.RowKit
set_option linter.unusedVariables false

theorem q_same {P : Program} {f : FuncId} {args : Array Value} {w : World} {n : Nat} {v : Value} (h : Calls P f args (w.drewN n) fun e w' => e = .returned v ∧ w.drewN n = w') : Calls P f args (w.drewN n) fun e w'' => e = .returned v ∧ ∃ m, w'' = w.drewN m :=
  h.mono fun _ _ ⟨he, hm⟩ => ⟨he, n, hm.symm⟩
theorem isNaNU (w : World) (x : Int) : Calls Try.prog 102 #[.int .u64 x] w fun e w' => e = .returned (.bool false) ∧ w = w' := by
  have h : (x != x) = false := by simp
  go_enter Try.func102, Try.ntmps102
  go_wp2
  go_ret
  exact ⟨rfl, rfl⟩
set_option maxRecDepth 100000 in
theorem lessU (w : World) (x y : Int) : Calls Try.prog 126 #[.int .u64 x, .int .u64 y] w fun e w' => e = .returned (.bool (decide (x < y))) ∧ w = w' := by
  go_enter Try.func126, Try.ntmps126
  go_wp2_with (go_at_call 102; refine (isNaNU _ _).mono ?_; rintro e w' ⟨rfl, rfl⟩)
  go_ret
  exact ⟨rfl, rfl⟩

set_option maxRecDepth 100000 in
set_option maxHeartbeats 1000000 in
theorem insU (w : World) (A : Option Addr) (n c : Nat) (xs : List Int) (hn : xs.length = n) (h1 : 1 ≤ n) (hm : n ≤ 1000) (hR : Rd .u64 w A xs) (hs : xs.Pairwise (· ≤ ·)) :
    Calls Try.prog 120 #[.slice A n c, .int .i64 0, .int .i64 (n : Int)] w fun e w' => e = .returned (.tuple #[]) ∧ ∃ m, w' = w.drewN m := by
  have HN := Lib.hid hn
  have HR := Lib.hid hR
  have HS := Lib.hid hs
  clear hn hR hs
  go_enter Try.func120, Try.ntmps120
  go_wp2
  go_loopw [6, 7, 10, 11, 12, 13, 14, 15, 16, 17, 18, 19, 20, 21, 22, 23, 24, 25, 26, 27, 28, 29, 30, 31, 32, 33, 34, 35, 36, 37, 38, 39, 40, 41, 42, 43, 44, 45, 46, 47, 48] (fun i _ _ _ _ _ _ _ _ _ _ _ _ _ _ _ _ _ _ _ _ _ _ _ _ _ _ _ _ _ _ _ _ _ _ _ _ _ _ _ _ wr => ∃ k m : Nat, 1 ≤ k ∧ k ≤ n ∧ i = .int .i64 k ∧ wr = w.drewN m) (fun i _ _ _ _ _ _ _ _ _ _ _ _ _ _ _ _ _ _ _ _ _ _ _ _ _ _ _ _ _ _ _ _ _ _ _ _ _ _ _ _ _ => n - (intOf i).toNat)
  case atStart => exact ⟨1, 0, by omega, by omega, rfl, rfl⟩
  case round =>
    obtain ⟨k, m, hk1, hk, rfl, rfl⟩ := hrel
    by_cases hlt : k < n
    · obtain ⟨j, rfl⟩ : ∃ j, k = j + 1 := ⟨k - 1, by omega⟩
      have hkl : j + 1 < xs.length := by rw [HN.out]; exact hlt
      obtain ⟨g, off, hA, hl, c1⟩ := HR.out.at_ hkl
      obtain ⟨g', off', hA', _, c0⟩ := HR.out.at_ (i := j) (by omega)
      rw [hA] at hA'
      injection hA' with hA'
      injection hA' with hA' hA''
      subst hA hA' hA''
      have hle := List.pairwise_iff_getElem.1 HS.out j (j + 1) (by omega) hkl (by omega)
      have hd : decide (xs[j + 1] < xs[j]) = false := by simp; omega
      have hd0 : decide ((j : Int) + 1 > 0) = true := decide_eq_true (by omega)
      have hd1 : decide (0 < (j : Int) + 1) = true := decide_eq_true (by omega)
      have q1 : ((j + 1 : Nat) : Int) = (j : Int) + 1 := by omega
      have q2 : (j : Int) + 1 - 1 = (j : Int) := by omega
      have q3 : IntKind.i64.wrap ((j : Int) + 1 - 1) = (j : Int) := by rw [q2]; exact IntWalk.i64_in _ (by omega)
      have q4 : ((j : Int) + 1).toNat = j + 1 := by omega
      clear hle
      obtain ⟨W, hW⟩ : ∃ W, w.drewN m = W := ⟨_, rfl⟩
      have c0' : W.cell? ⟨g, off + j, none⟩ = some (.int .u64 xs[j]) := by rw [← hW]; exact c0
      have c1' : W.cell? ⟨g, off + (j + 1), none⟩ = some (.int .u64 xs[j + 1]) := by rw [← hW]; exact c1
      have hl' : g < W.heap.size := by rw [← hW]; exact hl
      rw [hW]
      have HW := Lib.hid hW
      clear hW
      rw [q1]
      go_wp2
      refine wp_loop_rounds 1 ?_
      rw [rounds_succ]
      go_wp2
      refine wp_region_quiet_lit (by kernel_rfl) (by kernel_rfl) ?_
      repeat (go_big_quiet_step ((go_at_call 126; exact q_same (lessU _ _ _))))
      refine wpQuiet_nil ?_
      rintro _ ⟨nq, rfl⟩
      go_wp2
      exact ⟨⟨j + 2, m + nq, by omega, by omega, by go_num, by rw [← HW.out, World.drewN_drewN]⟩, by simp [intOf]; omega⟩
    · go_wp2
      go_end0
      exact ⟨rfl, m, rfl⟩

set_option maxRecDepth 100000 in
set_option maxHeartbeats 1000000 in
theorem pdqU (w : World) (A : Option Addr) (n c : Nat) (xs : List Int) (lim : Int) (hn : xs.length = n) (h1 : 1 ≤ n) (hm : n ≤ 12) (hR : Rd .u64 w A xs) (hs : xs.Pairwise (· ≤ ·)) :
    Calls Try.prog 108 #[.slice A n c, .int .i64 0, .int .i64 (n : Int), .int .i64 lim] w fun e w' => e = .returned (.tuple #[]) ∧ ∃ m, w' = w.drewN m := by
  have HI := Lib.hid (insU w A n c xs hn h1 (by omega) hR hs)
  have h12 : (n : Int) ≤ 12 := by omega
  clear hn hR hs
  go_enter Try.func108, Try.ntmps108
  go_wp2
  refine wp_loop_rounds 1 ?_
  rw [rounds_succ]
  go_wp2_with (go_at_call 120; refine HI.out.mono ?_; rintro e w' ⟨rfl, m, rfl⟩)
  exact bodyPost_ret (v := .tuple #[]) (by simp [results, Try.results108, go_sem]) rfl ⟨rfl, m, rfl⟩

/-- Some number. -/
def SomeI (w : World) (e : Ending) (w' : World) : Prop := ∃ z : Int, e = .returned (.int .i64 z) ∧ w = w'
set_option maxRecDepth 100000 in
set_option maxHeartbeats 1000000 in
theorem bitsLen64 (w : World) (n : Nat) (hm : n ≤ 12) : Calls Try.prog 119 #[.int .u64 (n : Int)] w (SomeI w) := by
  have e1 : ¬ (4294967296 : Int) ≤ (n : Int) := by omega
  have e2 : ¬ (65536 : Int) ≤ (n : Int) := by omega
  have e3 : ¬ (256 : Int) ≤ (n : Int) := by omega
  have e4 : IntKind.u8.wrap (n : Int) = (n : Int) := by rw [IntKind.wrap_u8]; omega
  go_enter Try.func119, Try.ntmps119
  go_wp2
  go_ret
  exact ⟨_, rfl, rfl⟩
set_option maxRecDepth 100000 in
set_option maxHeartbeats 1000000 in
theorem bitsLen (w : World) (n : Nat) (hm : n ≤ 12) : Calls Try.prog 101 #[.int .u64 (n : Int)] w (SomeI w) := by
  have HI := Lib.hid (fun w => bitsLen64 w n hm)
  go_enter Try.func101, Try.ntmps101
  go_wp2_with (go_at_call 119; refine (HI.out _).mono ?_; rintro e w' ⟨z, rfl, rfl⟩)
  go_ret
  exact ⟨_, rfl, rfl⟩
set_option maxRecDepth 100000 in
set_option maxHeartbeats 1000000 in
theorem sortU (w : World) (A : Option Addr) (n c : Nat) (xs : List Int) (hn : xs.length = n) (h1 : 1 ≤ n) (hm : n ≤ 12) (hR : Rd .u64 w A xs) (hs : xs.Pairwise (· ≤ ·)) :
    Calls Try.prog 93 #[.slice A n c] w fun e w' => e = .returned (.tuple #[]) ∧ ∃ m, w' = w.drewN m := by
  have HI := Lib.hid (fun z => pdqU w A n c xs z hn h1 hm hR hs)
  have hw : IntKind.u64.wrap (n : Int) = (n : Int) := IntWalk.u64_in _ (by omega)
  clear hn hR hs
  go_enter Try.func93, Try.ntmps93
  go_wp2_with (first | (go_at_call 101; refine (bitsLen _ n hm).mono ?_; rintro e w' ⟨z, rfl, rfl⟩) | (go_at_call 108; refine (HI.out z).mono ?_; rintro e w' ⟨rfl, m, rfl⟩))
  go_end0
  exact ⟨rfl, m, rfl⟩
end Go.Proofs.Ytngkhligjkcbmaa

namespace Go.Proofs.Ytngkhligjkcbmaa
open Go.RowKit
set_option linter.unusedVariables false

/-- Without repetitions of neighbours. -/
def cpt (xs : List Int) : List Int := xs.foldl (fun acc x => if acc.getLast? = some x then acc else acc ++ [x]) []
theorem cpt_snoc (xs : List Int) (x : Int) : cpt (xs ++ [x]) = if (cpt xs).getLast? = some x then cpt xs else cpt xs ++ [x] := by
  unfold cpt; rw [List.foldl_append]; rfl
theorem cpt_last (xs : List Int) : ∀ k, (cpt (xs.take k)).getLast? = (xs.take k).getLast? := by
  intro k
  induction k with
  | zero => simp [cpt]
  | succ k ih =>
    by_cases hk : k < xs.length
    · rw [List.take_succ_eq_append_getElem hk, cpt_snoc]
      split
      · rename_i h; rw [h]; simp [-List.take_append_getElem]
      · simp [-List.take_append_getElem]
    · rw [List.take_of_length_le (by omega)]
      rw [List.take_of_length_le (by omega)] at ih
      exact ih
theorem take_last (xs : List Int) (k : Nat) (hk : k < xs.length) : (xs.take (k + 1)).getLast? = some xs[k] := by
  rw [List.take_succ_eq_append_getElem hk]; simp [-List.take_append_getElem]
theorem cpt_eq (xs : List Int) (k : Nat) (hk : k + 1 < xs.length) (h : xs[k + 1] = xs[k]) : cpt (xs.take (k + 2)) = cpt (xs.take (k + 1)) := by
  rw [List.take_succ_eq_append_getElem hk, cpt_snoc, cpt_last, take_last xs k (by omega), h, if_pos rfl]
theorem cpt_ne (xs : List Int) (k : Nat) (hk : k + 1 < xs.length) (h : xs[k + 1] ≠ xs[k]) : cpt (xs.take (k + 2)) = cpt (xs.take (k + 1)) ++ [xs[k + 1]] := by
  rw [List.take_succ_eq_append_getElem hk, cpt_snoc, cpt_last, take_last xs k (by omega), if_neg (fun h' => h (by injection h' with h'; exact h'.symm))]
theorem cpt_one (xs : List Int) : cpt (xs.take 1) = xs.take 1 := by
  cases xs with
  | nil => simp [cpt]
  | cons x xs => simp [cpt]
theorem cpt_all (xs : List Int) : cpt (xs.take xs.length) = cpt xs := by rw [List.take_length]

/-- What Compact leaves. -/
def CptPost (w : World) (g n c : Nat) (xs : List Int) (e : Ending) (w' : World) : Prop :=
  ∃ zs, e = .returned (.slice (some ⟨g, 0, none⟩) (cpt xs).length c) ∧ IB .u64 30 w' g zs ∧ zs.take (cpt xs).length = cpt xs ∧ Ch (At g) w w'
/-- The inner loop's invariant: p words are read, k are kept. -/
def CptIn (w : World) (g n : Nat) (xs : List Int) (p k : Nat) (wr : World) : Prop :=
  ∃ ys : List Int, IB .u64 30 wr g ys ∧ ys.length = n ∧ ys.take k = cpt (xs.take p) ∧ k = (cpt (xs.take p)).length ∧ k + 1 ≤ p ∧ (∀ j, p ≤ j + 1 → ys[j]? = xs[j]?) ∧ Ch (At g) w wr

theorem CptIn.keep {w wr : World} {g n p k : Nat} {xs : List Int} (h : CptIn w g n xs p k wr) (nq : Nat) : CptIn w g n xs p k (wr.drewN nq) := by
  obtain ⟨ys, h1, h2, h3, h4, h5, h6, h7⟩ := h
  exact ⟨ys, h1.drewN nq, h2, h3, h4, h5, h6, h7.drewN nq⟩
theorem CptIn.skip {w wr : World} {g n p k : Nat} {xs : List Int} (h : CptIn w g n xs (p + 1) k wr) (hx : xs.length = n) (hp : p + 1 < n) (he : xs[p + 1]? = xs[p]?) : CptIn w g n xs (p + 2) k wr := by
  obtain ⟨ys, h1, h2, h3, h4, h5, h6, h7⟩ := h
  have e : cpt (xs.take (p + 2)) = cpt (xs.take (p + 1)) := cpt_eq xs p (by omega) (by
    rw [List.getElem?_eq_getElem (by omega), List.getElem?_eq_getElem (by omega)] at he
    injection he)
  exact ⟨ys, h1, h2, by rw [e]; exact h3, by rw [e]; exact h4, by omega, fun j hj => h6 j (by omega), h7⟩
theorem CptIn.take {w wr : World} {g n p k : Nat} {xs : List Int} (h : CptIn w g n xs (p + 1) k wr) (hx : xs.length = n) (hp : p + 1 < n) (v : Int) (hv : xs[p + 1]? = some v) (he : xs[p + 1]? ≠ xs[p]?) :
    CptIn w g n xs (p + 2) (k + 1) (wr.setCell ⟨g, k, none⟩ (.int .u64 v)) := by
  obtain ⟨ys, h1, h2, h3, h4, h5, h6, h7⟩ := h
  have hv' : xs[p + 1]'(by omega) = v := by rw [List.getElem?_eq_getElem (by omega)] at hv; injection hv
  have e : cpt (xs.take (p + 2)) = cpt (xs.take (p + 1)) ++ [v] := by
    rw [cpt_ne xs p (by omega) (fun h => he (by rw [List.getElem?_eq_getElem (by omega), List.getElem?_eq_getElem (by omega), h])), hv']
  have hk : k < ys.length := by omega
  refine ⟨ys.set k v, h1.set k v, by simpa using h2, ?_, by rw [e]; simp; omega, by omega, fun j hj => ?_, h7.set1 k _⟩
  · rw [e, List.take_succ_eq_append_getElem (by simpa using hk), List.take_set_of_le (Nat.le_refl k), h3]
    simp
  · rw [List.getElem?_set, if_neg (by omega)]
    exact h6 j (by omega)

set_option maxRecDepth 100000 in
set_option maxHeartbeats 4000000 in
theorem compactU (w : World) (g n : Nat) (xs : List Int) (hn : xs.length = n) (h1 : 1 ≤ n) (hm : n ≤ 1000000) (hI : IB .u64 30 w g xs) :
    Calls Try.prog 94 #[.slice (some ⟨g, 0, none⟩) n n] w (CptPost w g n n xs) := by
  have HN := Lib.hid hn
  have HI := Lib.hid hI
  have hgl := hI.lt
  clear hn hI
  by_cases h2 : n < 2
  · obtain rfl : n = 1 := by omega
    have HC : Hid (cpt xs = xs) := by
      have := cpt_one xs
      rwa [List.take_of_length_le (by rw [HN.out]; omega)] at this
    go_enter Try.func94, Try.ntmps94
    go_wp2
    go_ret
    refine ⟨xs, ?_, HI.out, ?_, Ch.refl _ _⟩
    · rw [HC.out, HN.out]; rfl
    · rw [HC.out, List.take_length]
  · have h2' : ¬ (n : Int) < 2 := by omega
    go_enter Try.func94, Try.ntmps94
    go_wp2
    go_loopw [3, 4, 5, 10, 11, 12, 13, 14, 15, 16, 17, 18, 19, 20, 21, 22, 23, 24, 25, 26, 27, 28, 29, 30, 31, 32, 33, 34, 35, 36, 37, 38, 39, 40, 41, 42, 43, 44, 45, 46, 47, 48, 49, 50, 51, 52, 53, 54, 55, 56, 57, 58, 59, 2] (fun i _ _ _ _ _ _ _ _ _ _ _ _ _ _ _ _ _ _ _ _ _ _ _ _ _ _ _ _ _ _ _ _ _ _ _ _ _ _ _ _ _ _ _ _ _ _ _ _ _ _ _ _ _ wr => ∃ k m : Nat, 1 ≤ k ∧ k ≤ n ∧ i = .int .i64 k ∧ cpt (xs.take k) = xs.take k ∧ wr = w.drewN m) (fun i _ _ _ _ _ _ _ _ _ _ _ _ _ _ _ _ _ _ _ _ _ _ _ _ _ _ _ _ _ _ _ _ _ _ _ _ _ _ _ _ _ _ _ _ _ _ _ _ _ _ _ _ _ _ => n - (intOf i).toNat)
    case atStart => exact ⟨1, 0, by omega, by omega, rfl, cpt_one xs, rfl⟩
    case round =>
      obtain ⟨k, m, hk1, hk, rfl, hcp, rfl⟩ := hrel
      have HCP := Lib.hid hcp
      clear hcp
      by_cases hlt : k < n
      · obtain ⟨j, rfl⟩ : ∃ j, k = j + 1 := ⟨k - 1, by omega⟩
        obtain ⟨x1, hx1⟩ : ∃ x, xs[j + 1]? = some x := ⟨xs[j + 1]'(by rw [HN.out]; exact hlt), List.getElem?_eq_getElem _⟩
        obtain ⟨x0, hx0⟩ : ∃ x, xs[j]? = some x := ⟨xs[j]'(by rw [HN.out]; omega), List.getElem?_eq_getElem _⟩
        obtain ⟨W, hW⟩ : ∃ W, w.drewN m = W := ⟨_, rfl⟩
        have HIW : Hid (IB .u64 30 W g xs) := by show IB _ _ _ _ _; rw [← hW]; exact HI.out.drewN m
        have HBW : Hid (Ch (At g) w W) := by show Ch _ _ _; rw [← hW]; exact (Ch.refl _ _).drewN m
        have c0 : W.cell? ⟨g, j, none⟩ = some (.int .u64 x0) := by
          rw [HIW.out.cell (by rw [HN.out]; omega)]
          rw [List.getElem?_eq_getElem (by rw [HN.out]; omega)] at hx0
          injection hx0 with hx0
          rw [hx0]
        have c1 : W.cell? ⟨g, j + 1, none⟩ = some (.int .u64 x1) := by
          rw [HIW.out.cell (by rw [HN.out]; omega)]
          rw [List.getElem?_eq_getElem (by rw [HN.out]; omega)] at hx1
          injection hx1 with hx1
          rw [hx1]
        have hgW : g < W.heap.size := HIW.out.lt
        have q1 : ((j + 1 : Nat) : Int) = (j : Int) + 1 := by omega
        have q2 : (j : Int) + 1 - 1 = (j : Int) := by omega
        have q3 : IntKind.i64.wrap ((j : Int) + 1 - 1) = (j : Int) := by rw [q2]; exact IntWalk.i64_in _ (by omega)
        have q4 : ((j : Int) + 1).toNat = j + 1 := by omega
        have HX1 := Lib.hid hx1
        have HX0 := Lib.hid hx0
        have hlt' : (j : Int) + 1 < (n : Int) := by omega
        rw [hW]
        have HW := Lib.hid hW
        clear hW hx1 hx0
        rw [q1]
        by_cases he : x1 = x0
        · subst he
          have he' : (x1 == x1) = true := by simp
          have HI0 : Hid (CptIn w g n xs (j + 2) (j + 1) W) := by
            show CptIn _ _ _ _ _ _ _
            have hlj : j + 1 < xs.length := by rw [HN.out]; exact hlt
            have e : cpt (xs.take (j + 2)) = xs.take (j + 1) := by
              rw [cpt_eq xs j hlj (by
                have a := HX1.out; have b := HX0.out
                rw [List.getElem?_eq_getElem (by omega)] at a b
                injection a with a; injection b with b; rw [a, b])]
              exact HCP.out
            exact ⟨xs, HIW.out, HN.out, by rw [e], by rw [e, List.length_take]; omega, by omega, fun _ _ => rfl, HBW.out⟩
          go_upto_region 6 with (fail)
          go_quiet (fail)
          go_wp2
          have HI1 := Lib.hid (HI0.out.keep nq)
          clear HI0 c0 c1 HIW HBW HX1 HX0 HW he' hgW q1 q2 q3 q4
          obtain ⟨W1, hW1⟩ : ∃ W1, W.drewN nq = W1 := ⟨_, rfl⟩
          rw [hW1] at HI1 ⊢
          clear hW1
          go_loopw [5, 3, 29, 30, 31, 32, 33, 34, 35, 36, 37, 38, 39, 40, 41, 42, 43, 44, 45, 46, 47, 48, 49, 50, 51, 52, 53] (fun a b _ _ _ _ _ _ _ _ _ _ _ _ _ _ _ _ _ _ _ _ _ _ _ _ _ wr => ∃ k2 kk : Nat, 1 ≤ k2 ∧ j + 1 + k2 ≤ n ∧ a = .int .i64 k2 ∧ b = .int .i64 kk ∧ CptIn w g n xs (j + 1 + k2) kk wr) (fun a _ _ _ _ _ _ _ _ _ _ _ _ _ _ _ _ _ _ _ _ _ _ _ _ _ _ _ => n - (intOf a).toNat)
          case atStart => exact ⟨1, j + 1, by omega, by omega, rfl, by go_num, HI1.out⟩
          case round =>
            obtain ⟨k2, kk, hk2, hk3, rfl, rfl, hIn⟩ := hrel
            have HIn := Lib.hid hIn
            obtain ⟨ys, hI2, hyl, htk, hkl, hkp, hint, hCh⟩ := hIn
            have hgr := hI2.lt
            obtain ⟨e, rfl⟩ : ∃ e, k2 = e + 1 := ⟨k2 - 1, by omega⟩
            have q1 : ((e + 1 : Nat) : Int) = (e : Int) + 1 := by omega
            have q2 : (e : Int) + 1 - 1 = (e : Int) := by omega
            have q3 : IntKind.i64.wrap ((e : Int) + 1 - 1) = (e : Int) := by rw [q2]; exact IntWalk.i64_in _ (by omega)
            have q4 : ((e : Int) + 1).toNat = e + 1 := by omega
            by_cases hl2 : j + 1 + (e + 1) < n
            · have hl2' : (e : Int) + 1 < ((n - (j + 1) : Nat) : Int) := by omega
              have hl3 : e + 1 < n - (j + 1) := by omega
              have hl4 : e < n - (j + 1) := by omega
              obtain ⟨y1, hy1⟩ : ∃ x, xs[j + 1 + (e + 1)]? = some x := ⟨xs[j + 1 + (e + 1)]'(by rw [HN.out]; exact hl2), List.getElem?_eq_getElem _⟩
              obtain ⟨y0, hy0⟩ : ∃ x, xs[j + 1 + e]? = some x := ⟨xs[j + 1 + e]'(by rw [HN.out]; omega), List.getElem?_eq_getElem _⟩
              have c1 : wr.cell? ⟨g, j + 1 + (e + 1), none⟩ = some (.int .u64 y1) := by
                have := hint (j + 1 + (e + 1)) (by omega)
                rw [hy1, List.getElem?_eq_getElem (by omega)] at this
                rw [hI2.cell (by omega)]; injection this with this; rw [this]
              have c0 : wr.cell? ⟨g, j + 1 + e, none⟩ = some (.int .u64 y0) := by
                have := hint (j + 1 + e) (by omega)
                rw [hy0, List.getElem?_eq_getElem (by omega)] at this
                rw [hI2.cell (by omega)]; injection this with this; rw [this]
              obtain ⟨yk, ck⟩ : ∃ v, wr.cell? ⟨g, kk, none⟩ = some v := ⟨_, hI2.cell (by omega)⟩
              have fk := hI2.frozen kk
              have hkn : kk < n := by omega
              have HY1 := Lib.hid hy1
              have HY0 := Lib.hid hy0
              rw [q1]
              clear hint htk hkl hI2 hyl hCh hkp hy1 hy0
              by_cases hne : y1 = y0
              · subst hne
                have hb : (y1 != y1) = false := by simp
                go_upto_region 11 with (fail)
                go_quiet (fail)
                go_wp2
                refine ⟨⟨e + 2, kk, by omega, by omega, by go_num, rfl, ?_⟩, by simp [intOf]; omega⟩
                have := (HIn.out.keep nq).skip (p := j + 1 + e) HN.out hl2 (HY1.out.trans HY0.out.symm)
                exact this
              · have hb : (y1 != y0) = true := by simpa using hne
                go_upto_region 11 with (fail)
                go_quiet (fail)
                go_wp2
                refine ⟨⟨e + 2, kk + 1, by omega, by omega, by go_num, by go_num, ?_⟩, by simp [intOf]; omega⟩
                have := (HIn.out.keep nq).take (p := j + 1 + e) HN.out hl2 y1 HY1.out (by rw [show j + 1 + e + 1 = j + 1 + (e + 1) by omega, HY1.out, HY0.out]; simpa using hne)
                exact this
            · obtain rfl : n = j + 1 + (e + 1) := by omega
              have hl2' : ¬ (e : Int) + 1 < ((j + 1 + (e + 1) - (j + 1) : Nat) : Int) := by omega
              have hkn : kk < j + 1 + (e + 1) := by omega
              have hkn' : ¬ ((j + 1 + (e + 1) : Nat) : Int) < (kk : Int) := by omega
              have hkn2 : ¬ j + 1 + (e + 1) < kk := by omega
              have hkn3 : ¬ j + 1 + (e + 1) = kk := by omega
              obtain ⟨w2, hr2, hI3, hC3⟩ := run_clear_ints (P := Try.prog) wr 52 0 30 .u64 30 Try.underlying52 (by kernel_rfl) g kk (j + 1 + (e + 1) - kk) (j + 1 + (e + 1) - kk) ys hI2 (by omega) (by omega)
              have HR2 := Lib.hid hr2
              have HI3 := Lib.hid hI3
              have HC3 := Lib.hid hC3
              have HF : Hid (kk = (cpt xs).length ∧ ys.take kk = cpt xs) := by
                show _ ∧ _
                have ex : xs.take (j + 1 + (e + 1)) = xs := List.take_of_length_le (by rw [HN.out]; omega)
                rw [ex] at htk hkl
                exact ⟨hkl, htk⟩
              have HCh := Lib.hid hCh
              have hyl' : kk ≤ ys.length := by omega
              clear hint htk hkl hI2 hyl hCh hr2 hI3 hC3
              rw [q1]
              go_wp2
              rw [HR2.out]
              go_wp2
              go_ret
              refine ⟨_, ?_, HI3.out, ?_, HCh.out.trans HC3.out (fun _ h _ => h)⟩
              · rw [← HF.out.1]; rfl
              · rw [← HF.out.1, ← HF.out.2]
                unfold splice
                rw [List.take_append_of_le_length (by rw [List.length_take]; omega), List.take_take, Nat.min_self]
        · have he' : (x1 == x0) = false := by simpa using he
          go_upto_region 6 with (fail)
          go_quiet (fail)
          go_wp2
          refine ⟨⟨j + 2, m + nq, by omega, by omega, by go_num, ?_, by rw [← HW.out, World.drewN_drewN]⟩, by simp [intOf]; omega⟩
          have hlj : j + 1 < xs.length := by rw [HN.out]; exact hlt
          have a := HX1.out
          have b := HX0.out
          rw [List.getElem?_eq_getElem (by omega)] at a b
          injection a with a
          injection b with b
          rw [cpt_ne xs j hlj (by rw [a, b]; exact he), HCP.out, ← List.take_succ_eq_append_getElem hlj]
      · obtain rfl : k = n := by omega
        go_wp2
        go_ret
        have hE : cpt xs = xs := by have := HCP.out; rwa [List.take_of_length_le (by rw [HN.out]; omega)] at this
        exact ⟨xs, by rw [hE, HN.out]; rfl, HI.out.drewN m, by rw [hE, List.take_length], (Ch.refl _ _).drewN m⟩
end Go.Proofs.Ytngkhligjkcbmaa

namespace Go.Proofs.Ytngkhligjkcbmaa
open Go.RowKit
set_option linter.unusedVariables false

def startOf (off : Int) : Int := off - off % 64
theorem memStart (w : World) (off : Int) (h : 0 ≤ off ∧ off < 18446744073709551616) : Calls Try.prog 92 #[.int .u64 off] w fun e w' => e = .returned (.int .u64 (startOf off)) ∧ w = w' := by
  obtain ⟨h1, h2⟩ := h
  have e1 : IntKind.u64.wrap (off - off % 64) = off - off % 64 := IntWalk.u64_in _ (by omega)
  unfold startOf
  go_enter Try.func92, Try.ntmps92
  go_wp2
  go_ret
  exact ⟨rfl, rfl⟩

theorem info_instr : (Try.prog.info? 32).map (fun i => (i.zero, i.size, i.bytes)) = some (some (.agg #[.int .u8 0, .int .u64 0, .int .u64 0]), 3, 24) := by kernel_rfl

/-- make of an empty slice of words with room for n. -/
theorem run_make_room {P : Program} (t e : TypeId) (n : Nat) (ht : P.underlying t = some (.slice e)) (hinfo : (P.info? e).map (fun i => (i.zero, i.size, i.bytes)) = some (some (.int .u64 0), 1, 8)) (hn : n ≤ 1000000) (w : World) :
    (Instr.makeSlice t (.int .i64 0) (.int .i64 (n : Int))).run P w = .ok (.slice (some ⟨w.heap.size, 0, none⟩) 0 n) (w.alloc (.cells (ia .u64 (List.replicate n (0 : Int))) e)) := by
  cases hi : P.info? e with
  | none => rw [hi] at hinfo; cases hinfo
  | some i =>
    rw [hi] at hinfo
    simp only [Option.map_some, Option.some.injEq, Prod.mk.injEq] at hinfo
    obtain ⟨hz, hs, hb⟩ := hinfo
    have hr := run_make (P := P) w t e i (.int .u64 0) ht hi hz .i64 .i64 0 n (by omega) (by omega) (by rw [hb]; omega) (by omega)
    rw [hr, hs]
    simp only [Int.toNat_natCast, Nat.mul_one, Int.toNat_zero]
    congr 3
    congr 1
    simp only [madeCells, Value.cells, ia, List.map_replicate]
    apply Array.ext
    · simp
    · intro i h1 h2
      simp [Nat.mod_one]
/-- append of one word to a slice with room. -/
theorem wpList_append_ib {P : Program} {w : World} {ops : Array Oper} {rest : List Oper} {o : Oper} {a : Act} {Q : Exit → Act → World → Prop} (hgd : o.guard = none) (s x : Operand) (t : TypeId)
    (ho : o.op = .call { callee := .builtin .append, args := #[s, x], argTypes := #[t, t] }) (e : TypeId) (ht : P.underlying t = some (.slice e)) (hinfo : (P.info? e).map (fun i => (i.zero, i.size, i.bytes)) = some (some (.int .u64 0), 1, 8))
    (g k c : Nat) (ad : Addr) (d : Nat) (v : Int) (xs : List Int) (hse : a.eval s = .slice (some ⟨g, 0, none⟩) k c) (hxe : a.eval x = .slice (some ad) 1 d) (hI : IB .u64 e w g xs) (hk : k < c) (hc : c ≤ xs.length) (hv : w.cell? (ad.add 0) = some (.int .u64 v))
    (h : wpList P ops Q rest (a.put o.dst (.slice (some ⟨g, 0, none⟩) (k + 1) c)) (w.setCell ⟨g, k, none⟩ (.int .u64 v))) : wpList P ops Q (o :: rest) a w := by
  refine wpList_plain hgd fun K hK => ?_
  cases hi : P.info? e with
  | none => rw [hi] at hinfo; cases hinfo
  | some i =>
    rw [hi] at hinfo
    simp only [Option.map_some, Option.some.injEq, Prod.mk.injEq] at hinfo
    obtain ⟨hz, hs, hb⟩ := hinfo
    have hrun := run_append_room_cells (P := P) w t o.type e i ht hi g 0 k c ad 1 d [.int .u64 v] (by rw [hs]; rfl) (fun j u hj => by
        cases j with
        | zero => simp at hj; subst hj; exact hv
        | succ j => simp at hj) (fun u hu => by simp at hu; subst hu; rfl) (by omega)
      (fun j hj => by
        obtain rfl : j = 0 := by simpa using hj
        rw [hs, show 0 + k * 1 + 0 = k by omega, hI.cell (by omega)]; rfl) (fun j hj => hI.frozen _)
    have e1 : w.setCells g (0 + k * i.size) [.int .u64 v] = w.setCell ⟨g, k, none⟩ (.int .u64 v) := by rw [hs]; simp [World.setCells]
    rw [e1] at hrun
    unfold Oper.wp execOp
    simp only [ho, resolve, invoke, builtin, Sem.run_bind, Sem.run_pure, Result.andThen_ok, List.map_toArray, List.map_cons, List.map_nil, hse, hxe, hrun]
    exact hK _ _ h

/-- The stores of writes. -/
def insSt (ws : List (Int × Int)) : List Ins := ws.map fun p => (1, p.1, p.2)
def insFl (ls : List Int) : List Ins := ls.map fun l => (2, l, 0)
def starts (ws : List (Int × Int)) : List Int := ws.map fun p => startOf p.1
/-- The program of Stores. -/
def storesP (ws : List (Int × Int)) : List Ins := insSt ws ++ insFl (cpt (starts ws)) ++ [(3, 0, 0)]
theorem ins_one (a b c : Int) : ∀ u ∈ ([.int .u8 a, .int .u64 b, .int .u64 c] : List Value), u.oneCell' = true := by
  intro u hu
  simp only [List.mem_cons, List.not_mem_nil, or_false] at hu
  rcases hu with rfl | rfl | rfl <;> rfl
theorem cells_three (w : World) (e : TypeId) (a b c : Value) : ∀ (j : Nat) (u : Value), [a, b, c][j]? = some u → (w.alloc (.cells #[a, b, c] e)).cell? ((⟨w.heap.size, 0, none⟩ : Addr).add j) = some u := by
  intro j u hu
  have h1 : (⟨w.heap.size, 0, none⟩ : Addr).add j = ⟨w.heap.size, 0 + j, none⟩ := by unfold Addr.add; split <;> simp_all
  rw [h1, Nat.zero_add, (CB.new w e #[a, b, c]).cell]
  have : j = 0 ∨ j = 1 ∨ j = 2 ∨ 3 ≤ j := by omega
  rcases this with rfl | rfl | rfl | h
  · simpa using hu
  · simpa using hu
  · simpa using hu
  · rw [List.getElem?_eq_none (by simpa using h)] at hu; cases hu
/-- The lines so far, in n words. -/
def lnPad (ws : List (Int × Int)) (n k : Nat) : List Int := starts (ws.take k) ++ List.replicate (n - k) 0
theorem length_lnPad (ws : List (Int × Int)) (n k : Nat) (hw : ws.length = n) (hk : k ≤ n) : (lnPad ws n k).length = n := by simp [lnPad, starts]; omega
theorem lnPad_set (ws : List (Int × Int)) (n k : Nat) (hw : ws.length = n) (hk : k < n) : (lnPad ws n k).set k (startOf (ws[k]'(by omega)).1) = lnPad ws n (k + 1) := by
  have hkl : k < ws.length := by omega
  unfold lnPad starts
  rw [List.take_succ_eq_append_getElem hkl, List.set_append_right _ _ (by simp; omega)]
  obtain ⟨m, hm⟩ : ∃ m, n - k = m + 1 := ⟨n - k - 1, by omega⟩
  have h2 : n - (k + 1) = m := by omega
  have h3 : k - (List.map (fun p => startOf p.1) (List.take k ws)).length = 0 := by simp; omega
  rw [hm, h2, h3, List.replicate_succ, List.set_cons_zero, List.map_append]
  simp [-List.take_append_getElem]
theorem lnPad_all (ws : List (Int × Int)) (n : Nat) (hw : ws.length = n) : lnPad ws n n = starts ws := by
  unfold lnPad
  rw [List.take_of_length_le (by omega), Nat.sub_self]; simp
/-- The first loop's invariant. -/
def StoInv (w : World) (g n : Nat) (ws : List (Int × Int)) (k : Nat) (A : Option Addr) (c : Nat) (wr : World) : Prop :=
  Sl 32 3 wr A k c (pcells (insSt (ws.take k))) ∧ IB .u64 30 wr g (lnPad ws n k) ∧ Below w.heap.size w wr ∧ ∀ b, OwnB A b → w.heap.size ≤ b ∧ b ≠ g
theorem cpt_length (xs : List Int) : ∀ k, (cpt (xs.take k)).length ≤ k := by
  intro k
  induction k with
  | zero => simp [cpt]
  | succ k ih =>
    by_cases hk : k < xs.length
    · rw [List.take_succ_eq_append_getElem hk, cpt_snoc]
      split
      · omega
      · rw [List.length_append]; simp; exact ih
    · rw [List.take_of_length_le (by omega)] at ih ⊢
      omega
theorem cpt_le (xs : List Int) : (cpt xs).length ≤ xs.length := by have := cpt_length xs xs.length; rwa [List.take_length] at this
/-- The second loop's invariant. -/
def StoInv2 (w : World) (g n : Nat) (ws : List (Int × Int)) (zs cs : List Int) (j : Nat) (A : Option Addr) (c : Nat) (wr : World) : Prop :=
  Sl 32 3 wr A (n + j) c (pcells (insSt ws ++ insFl (cs.take j))) ∧ IB .u64 30 wr g zs ∧ Below w.heap.size w wr ∧ ∀ b, OwnB A b → w.heap.size ≤ b ∧ b ≠ g
def StoPost (w : World) (ps : List Ins) (e : Ending) (w' : World) : Prop :=
  ∃ A c, e = .returned (.slice A ps.length c) ∧ Sl 32 3 w' A ps.length c (pcells ps) ∧ Below w.heap.size w w' ∧ ∀ b, OwnB A b → w.heap.size ≤ b

set_option maxRecDepth 100000 in
set_option maxHeartbeats 4000000 in
theorem memStores (w : World) (A : Option Addr) (n c : Nat) (ws : List (Int × Int)) (hn : ws.length = n) (h1 : 1 ≤ n) (hm : n ≤ 12) (hS : Sl 34 2 w A n c (wcells ws)) (hr : ∀ p ∈ ws, 0 ≤ p.1 ∧ p.1 < 18446744073709551616) (hs : (starts ws).Pairwise (· ≤ ·)) :
    Calls Try.prog 61 #[.slice A n c] w (StoPost w (storesP ws)) := by
  have HN := Lib.hid hn
  have HS := Lib.hid hS
  have HR := Lib.hid hr
  have HSo := Lib.hid hs
  have e0 : ((n : Int) == 0) = false := by simp; omega
  have hmk : ∀ W : World, (Instr.makeSlice 52 (.int .i64 0) (.int .i64 (n : Int))).run Try.prog W = .ok (.slice (some ⟨W.heap.size, 0, none⟩) 0 n) (W.alloc (.cells (ia .u64 (List.replicate n 0)) 30)) := run_make_room 52 30 n Try.underlying52 info_u64 (by omega)
  clear hn hS hr hs
  go_enter Try.func61, Try.ntmps61
  go_wp2
  have HI0 : Hid (StoInv w w.heap.size n ws 0 none 0 (w.alloc (.cells (ia .u64 (List.replicate n 0)) 30))) := by
    refine ⟨Sl.nil, ?_, bl_alloc (Below.refl _ _) _, by simp [OwnB]⟩
    have : lnPad ws n 0 = List.replicate n 0 := by simp [lnPad, starts]
    rw [this]; exact IB.new _ _
  obtain ⟨g, hg⟩ : ∃ g, w.heap.size = g := ⟨_, rfl⟩
  obtain ⟨W, hW⟩ : ∃ W, w.alloc (.cells (ia .u64 (List.replicate n 0)) 30) = W := ⟨_, rfl⟩
  have HI1 : Hid (StoInv w g n ws 0 none 0 W) := by show StoInv _ _ _ _ _ _ _ _; rw [← hg, ← hW]; exact HI0.out
  have hgw : w.heap.size ≤ g := by omega
  rw [hg, hW]
  clear hmk hg hW HI0
  go_loopw [17, 3, 4, 6, 18, 19, 20, 21, 22, 23, 24, 25, 26, 27, 28, 29, 30, 31, 32, 33, 34, 35] (fun i p l _ _ _ _ _ _ _ _ _ _ _ _ _ _ _ _ _ _ _ wr => ∃ (k : Nat) (A' : Option Addr) (c' : Nat), k ≤ n ∧ i = .int .i64 k ∧ p = .slice A' k c' ∧ l = .slice (some ⟨g, 0, none⟩) k n ∧ StoInv w g n ws k A' c' wr) (fun i p l _ _ _ _ _ _ _ _ _ _ _ _ _ _ _ _ _ _ _ _ => n - (intOf i).toNat)
  case atStart => exact ⟨0, none, 0, by omega, rfl, rfl, rfl, HI1.out⟩
  case round =>
    clear HI1
    obtain ⟨k, A', c', hk, rfl, rfl, rfl, hP, hI, hB, hO⟩ := hrel
    have HP := Lib.hid hP
    have HI := Lib.hid hI
    have HB := Lib.hid hB
    have HO := Lib.hid hO
    by_cases hlt : k < n
    · have hkl : k < ws.length := by rw [HN.out]; exact hlt
      obtain ⟨gw, ow, hA, hl, c1, c2⟩ := (HS.out.keep (fun b hb => hB.block b (HS.out.lt hb))).wr hkl
      obtain ⟨⟨of, v⟩, hp⟩ : ∃ p, ws[k] = p := ⟨_, rfl⟩
      have hpp := HR.out _ (List.getElem_mem hkl)
      rw [hp] at c1 c2 hpp
      have HPP := Lib.hid hp
      have hof : 0 ≤ of ∧ of < 18446744073709551616 := hpp
      have HOF := Lib.hid hof
      subst hA
      rw [show 2 * k = k * 2 by omega] at c1 c2
      have hgn : ¬ gw = wr.heap.size := by omega
      have hgr := hI.lt
      clear hP hI hB hO hp hpp hof
      go_wp2_with (at_builtin; refine wpList_append_sl rfl (.tmp 21) (.tmp 27) 25 rfl 32 (.agg #[.int .u8 0, .int .u64 0, .int .u64 0]) 3 24 rfl (by omega) Try.underlying25 info_instr (by omega) A' k c' (pcells (insSt (ws.take k))) ⟨wr.heap.size + 1, 0, none⟩ 1 1 [.int .u8 1, .int .u64 of, .int .u64 v] rfl rfl (HP.out.keep (fun b hb => ((bl_alloc (bl_alloc (Below.refl _ _) _) _ : Below wr.heap.size wr _).block b (HP.out.lt hb)))) rfl (by omega) (by have := cells_three (wr.alloc (.cells #[.int .u64 of, .int .u64 v] 34)) 32 (.int .u8 1) (.int .u64 of) (.int .u64 v); simpa using this) (ins_one _ _ _) (by omega) ?_; intro A2 c2' w2 HO2 HC2 HW2 HG2; have hsz : wr.heap.size + 2 ≤ w2.heap.size := (by have := HC2.out.size; simpa using this); have hno : ∀ b, wr.heap.size ≤ b → ¬ OwnB A' b := (fun b hb ho => by have := HP.out.lt ho; omega); have m0 : w2.cell? ⟨wr.heap.size, 0, none⟩ = some (.int .u64 of) := ((HC2.out.cells _ _ (by simp; omega) (hno _ (Nat.le_refl _))).trans (by go_simp)); have HI2 : Hid (IB .u64 30 w2 g (lnPad ws n k)) := (((HI.out.alloc _).alloc _).ch HC2.out (fun ho => (HO.out g ho).2 rfl)); have m1 : wr.heap.size < w2.heap.size := (by omega); clear hno)
      go_wp2_with (first | (go_at_call 92; refine (memStart _ of HOF.out).mono ?_; rintro e w' ⟨rfl, rfl⟩) | (at_builtin; refine wpList_append_ib rfl (.tmp 29) (.tmp 33) 52 rfl 30 Try.underlying52 info_u64 g k n ⟨w2.heap.size, 0, none⟩ 1 (startOf of) (lnPad ws n k) rfl rfl (HI2.out.alloc _) hlt (by rw [length_lnPad ws n k HN.out hk]; exact Nat.le_refl _) (by simp [go_sem]) ?_))
      refine ⟨⟨k + 1, A2, c2', by omega, by go_num, rfl, rfl, ?_, ?_, ?_, ?_⟩, by simp [intOf]; omega⟩
      · have hx := HO2.out
        have e1 : pcells (insSt (ws.take (k + 1))) = pcells (insSt (ws.take k)) ++ [.int .u8 1, .int .u64 of, .int .u64 v] := by
          rw [List.take_succ_eq_append_getElem hkl, HPP.out, insSt, List.map_append, pcells_append]; rfl
        rw [e1]
        refine hx.keep (fun b hb => ?_)
        have hbl := hx.lt hb
        have hbg : b ≠ g := by
          rcases HW2.out b hb with h | h
          · exact (HO.out b h).2
          · rw [h]; simp; omega
        rw [Below.heap_setCell _ _ _ _ hbg, Below.heap_alloc _ _ _ hbl]
      · have := (HI2.out.alloc (.cells #[.int .u64 (startOf of)] 30)).set k (startOf of)
        rw [← lnPad_set ws n k HN.out hlt, HPP.out]
        exact this
      · refine bl_set (bl_alloc (bl_ch (bl_alloc (bl_alloc HB.out _) _) HC2.out (fun b hb => (HO.out b hb).1)) _) hgw _
      · intro b hb
        rcases HW2.out b hb with h | h
        · exact HO.out b h
        · have := HB.out.size
          rw [h]; simp; omega
    · obtain rfl : k = n := by omega
      have hI' : IB .u64 30 wr g (starts ws) := by rw [← lnPad_all ws k HN.out]; exact hI
      have hP' : Sl 32 3 wr A' k c' (pcells (insSt ws)) := by rw [List.take_of_length_le (by rw [HN.out]; omega)] at hP; exact hP
      have hsl : (starts ws).length = k := by simp [starts, HN.out]
      have HSRT := Lib.hid (sortU wr (some ⟨g, 0, none⟩) k k (starts ws) hsl h1 hm hI'.rd0 HSo.out)
      have HCPT := Lib.hid (fun m => compactU (wr.drewN m) g k (starts ws) hsl h1 (by omega) (hI'.drewN m))
      have HP' := Lib.hid hP'
      clear hP hI hB hO hI' hP' HP HI hsl
      go_wp2_with (first | (go_at_call 93; refine HSRT.out.mono ?_; rintro e w' ⟨rfl, m, rfl⟩) | (go_at_call 94; refine (HCPT.out m).mono ?_; rintro e w3 ⟨zs, rfl, hZ, hzt, hC3⟩; have HZ := Lib.hid hZ; have HZT := Lib.hid hzt; have HC3 := Lib.hid hC3; clear hZ hzt hC3))
      have HI2 : Hid (StoInv2 w g k ws zs (cpt (starts ws)) 0 A' c' w3) := by
        refine ⟨?_, HZ.out, bl_ch (bl_drewN HB.out m) HC3.out (fun b hb => by rw [show b = g from hb]; exact hgw), HO.out⟩
        have h1 := HP'.out.keep (w' := w3) (fun b hb => HC3.out.block b (HP'.out.lt hb) (fun h => (HO.out b hb).2 h))
        simpa [insFl] using h1
      have hzl : (cpt (starts ws)).length ≤ k := by have := cpt_le (starts ws); simp [starts] at this; rw [HN.out] at this; exact this
      obtain ⟨cs, hcs⟩ : ∃ cs, cpt (starts ws) = cs := ⟨_, rfl⟩
      obtain ⟨q, hq⟩ : ∃ q, cs.length = q := ⟨_, rfl⟩
      have HCS := Lib.hid hcs
      have HQ := Lib.hid hq
      rw [hcs] at HI2 HZT hzl ⊢
      rw [hq] at HZT hzl ⊢
      clear hcs hq HSRT HCPT HZ HC3 HB HO HP'
      go_loopw [41, 3, 8, 42, 43, 44, 45, 46, 47, 48, 49, 50] (fun i p _ _ _ _ _ _ _ _ _ _ wr => ∃ (j : Nat) (A' : Option Addr) (c' : Nat), j ≤ q ∧ i = .int .i64 j ∧ p = .slice A' (k + j) c' ∧ StoInv2 w g k ws zs cs j A' c' wr) (fun i _ _ _ _ _ _ _ _ _ _ _ _ => q - (intOf i).toNat)
      case atStart => exact ⟨0, _, _, by omega, rfl, rfl, HI2.out⟩
      case round =>
        clear HI2
        obtain ⟨j, A1, c1, hj, rfl, rfl, hP, hI, hB, hO⟩ := hrel
        have HP := Lib.hid hP
        have HI := Lib.hid hI
        have HB := Lib.hid hB
        have HO := Lib.hid hO
        have hgr := hI.lt
        by_cases hjq : j < q
        · have hjl : j < cs.length := by rw [HQ.out]; exact hjq
          obtain ⟨l, hl⟩ : ∃ l, cs[j] = l := ⟨_, rfl⟩
          have hzl' : q ≤ zs.length := by have := congrArg List.length HZT.out; rw [List.length_take, HQ.out] at this; omega
          have hzj : zs[j]'(by omega) = l := by
            have h1 : (zs.take q)[j]'(by rw [List.length_take]; omega) = l := by
              have h2 := HZT.out
              simp only [h2]; exact hl
            rwa [List.getElem_take] at h1
          have cj : wr.cell? ⟨g, j, none⟩ = some (.int .u64 l) := by rw [hI.cell (by omega), hzj]
          have HL := Lib.hid hl
          have hjn : j < k := by omega
          clear hP hI hB hO hl hzj
          go_wp2_with (at_builtin; refine wpList_append_sl rfl (.tmp 45) (.tmp 48) 25 rfl 32 (.agg #[.int .u8 0, .int .u64 0, .int .u64 0]) 3 24 rfl (by omega) Try.underlying25 info_instr (by omega) A1 (k + j) c1 (pcells (insSt ws ++ insFl (cs.take j))) ⟨wr.heap.size, 0, none⟩ 1 1 [.int .u8 2, .int .u64 l, .int .u64 0] rfl rfl (HP.out.keep (fun b hb => Below.heap_alloc _ _ _ (HP.out.lt hb))) rfl (by omega) (cells_three wr 32 _ _ _) (ins_one _ _ _) (by omega) ?_; intro A2 c2' w2 HO2 HC2 HW2 HG2)
          refine ⟨⟨j + 1, A2, c2', by omega, by go_num, rfl, ?_, ?_, ?_, ?_⟩, by simp [intOf]; omega⟩
          · have e1 : pcells (insSt ws ++ insFl (cs.take (j + 1))) = pcells (insSt ws ++ insFl (cs.take j)) ++ [.int .u8 2, .int .u64 l, .int .u64 0] := by
              rw [List.take_succ_eq_append_getElem hjl, HL.out, insFl, List.map_append, ← List.append_assoc, pcells_append]; rfl
            rw [e1]; exact HO2.out
          · exact (HI.out.alloc _).ch HC2.out (fun ho => (HO.out g ho).2 rfl)
          · exact bl_ch (bl_alloc HB.out _) HC2.out (fun b hb => (HO.out b hb).1)
          · intro b hb
            have := HB.out.size
            rcases HW2.out b hb with h | h
            · exact HO.out b h
            · rw [h]; simp; omega
        · obtain rfl : j = q := by omega
          clear hP hI hB hO
          go_wp2_with (at_builtin; refine wpList_append_sl rfl (.tmp 51) (.tmp 53) 25 rfl 32 (.agg #[.int .u8 0, .int .u64 0, .int .u64 0]) 3 24 rfl (by omega) Try.underlying25 info_instr (by omega) A1 (k + j) c1 (pcells (insSt ws ++ insFl (cs.take j))) ⟨wr.heap.size, 0, none⟩ 1 1 [.int .u8 3, .int .u64 0, .int .u64 0] rfl rfl (HP.out.keep (fun b hb => Below.heap_alloc _ _ _ (HP.out.lt hb))) rfl (by omega) (cells_three wr 32 _ _ _) (ins_one _ _ _) (by omega) ?_; intro A2 c2' w2 HO2 HC2 HW2 HG2)
          go_ret
          have hE : storesP ws = insSt ws ++ insFl (cs.take j) ++ [(3, 0, 0)] := by
            rw [storesP, HCS.out, List.take_of_length_le (by rw [HQ.out]; exact Nat.le_refl _)]
          have hlen : (storesP ws).length = k + j + 1 := by
            rw [hE]; simp [insSt, insFl, HN.out, HQ.out]; omega
          refine ⟨A2, c2', ?_, ?_, ?_, ?_⟩
          · rw [hlen]; rfl
          · rw [hlen, hE, pcells_append]; exact HO2.out
          · exact bl_ch (bl_alloc HB.out _) HC2.out (fun b hb => (HO.out b hb).1)
          · intro b hb
            have := HB.out.size
            rcases HW2.out b hb with h | h
            · exact (HO.out b h).1
            · rw [h]; simp; omega
end Go.Proofs.Ytngkhligjkcbmaa

namespace Go.Proofs.Ytngkhligjkcbmaa
open Go.RowKit
set_option linter.unusedVariables false

/-- All words fit. -/
def Fits (ws : List Int) : Prop := ∀ x ∈ ws, 0 ≤ x ∧ x < 18446744073709551616
def byteAt (ws : List Int) (i : Nat) : Int := ws[i / 8]?.getD 0 / 2 ^ (i % 8 * 8) % 256
/-- The little-endian bytes of words. -/
def bytesL (ws : List Int) : List Int := (List.range (8 * ws.length)).map (byteAt ws)
theorem length_bytesL (ws : List Int) : (bytesL ws).length = 8 * ws.length := by simp [bytesL]
theorem bytesL_getq (ws : List Int) (i : Nat) (h : i < 8 * ws.length) : (bytesL ws)[i]? = some (byteAt ws i) := by
  simp [bytesL, h]
theorem bytesL_get (ws : List Int) (i : Nat) (h : i < (bytesL ws).length) : (bytesL ws)[i] = byteAt ws i := by
  simp [bytesL]
theorem byteAt_range (ws : List Int) (i : Nat) : 0 ≤ byteAt ws i ∧ byteAt ws i < 256 := by unfold byteAt; omega
theorem Fits.getD {ws : List Int} (h : Fits ws) (i : Nat) : 0 ≤ ws[i]?.getD 0 ∧ ws[i]?.getD 0 < 18446744073709551616 := by
  by_cases hi : i < ws.length
  · rw [List.getElem?_eq_getElem hi]; exact h _ (List.getElem_mem hi)
  · rw [List.getElem?_eq_none (by omega)]; exact ⟨Int.le_refl _, by decide⟩
theorem Fits.set {ws : List Int} (h : Fits ws) (i : Nat) {v : Int} (hv : 0 ≤ v ∧ v < 18446744073709551616) : Fits (ws.set i v) := by
  intro x hx
  rcases List.mem_or_eq_of_mem_set hx with h1 | h1
  · exact h x h1
  · rw [h1]; exact hv
theorem Fits.zeros (n : Nat) : Fits (List.replicate n 0) := by
  intro x hx
  rw [(List.mem_replicate.1 hx).2]; exact ⟨Int.le_refl _, by decide⟩

/-- The bytes of which k are laid. -/
def byPad (ws : List Int) (k : Nat) : List Int := (bytesL ws).take k ++ List.replicate (8 * ws.length - k) 0
theorem byPad_zero (ws : List Int) : byPad ws 0 = List.replicate (8 * ws.length) 0 := by simp [byPad]
theorem byPad_all (ws : List Int) : byPad ws (8 * ws.length) = bytesL ws := by
  unfold byPad
  rw [List.take_of_length_le (by rw [length_bytesL]; omega), Nat.sub_self]; simp
theorem length_byPad (ws : List Int) (k : Nat) (hk : k ≤ 8 * ws.length) : (byPad ws k).length = 8 * ws.length := by simp [byPad, length_bytesL]; omega
theorem byPad_set (ws : List Int) (k : Nat) (hk : k < 8 * ws.length) : (byPad ws k).set k (byteAt ws k) = byPad ws (k + 1) := by
  have hkl : k < (bytesL ws).length := by rw [length_bytesL]; exact hk
  unfold byPad
  rw [List.take_succ_eq_append_getElem hkl, bytesL_get, List.set_append_right _ _ (by simp; omega)]
  obtain ⟨m, hm⟩ : ∃ m, 8 * ws.length - k = m + 1 := ⟨8 * ws.length - k - 1, by omega⟩
  have e1 : k - ((bytesL ws).take k).length = 0 := by simp; omega
  rw [e1, hm, List.replicate_succ, List.set_cons_zero, show 8 * ws.length - (k + 1) = m by omega]
  simp

/-- The words of which i bytes are laid. -/
def partAt (ws : List Int) (i j : Nat) : Int := ws[j]?.getD 0 % 2 ^ (8 * min 8 (i - 8 * j))
def partW (ws : List Int) (i : Nat) : List Int := (List.range ws.length).map (partAt ws i)
theorem length_partW (ws : List Int) (i : Nat) : (partW ws i).length = ws.length := by simp [partW]
theorem partW_get (ws : List Int) (i j : Nat) (h : j < ws.length) : (partW ws i)[j]? = some (partAt ws i j) := by simp [partW, h]
theorem partW_zero (ws : List Int) : partW ws 0 = List.replicate ws.length 0 := by
  apply List.ext_getElem?
  intro j
  by_cases h : j < ws.length
  · rw [partW_get ws 0 j h]; simp [h, partAt]
  · rw [List.getElem?_eq_none (by rw [length_partW]; omega), List.getElem?_eq_none (by simp; omega)]
theorem partW_all (ws : List Int) (hf : Fits ws) : partW ws (8 * ws.length) = ws := by
  apply List.ext_getElem?
  intro j
  by_cases h : j < ws.length
  · rw [partW_get ws _ j h, List.getElem?_eq_getElem h]
    have hb := hf _ (List.getElem_mem h)
    unfold partAt
    rw [List.getElem?_eq_getElem h, show min 8 (8 * ws.length - 8 * j) = 8 by omega]
    simp only [Option.getD_some, Nat.reduceMul, Int.reducePow]
    congr 1
    omega
  · rw [List.getElem?_eq_none (by rw [length_partW]; omega), List.getElem?_eq_none (by omega)]
theorem partAt_now (ws : List Int) (i : Nat) : partAt ws i (i / 8) = ws[i / 8]?.getD 0 % 2 ^ (i % 8 * 8) := by
  unfold partAt
  rw [show min 8 (i - 8 * (i / 8)) = i % 8 by omega, Nat.mul_comm]
theorem partW_step (ws : List Int) (i : Nat) (hi : i < 8 * ws.length) : (partW ws i).set (i / 8) (ws[i / 8]?.getD 0 % 2 ^ ((i % 8 + 1) * 8)) = partW ws (i + 1) := by
  have hl : i / 8 < ws.length := by omega
  apply List.ext_getElem?
  intro j
  rw [List.getElem?_set]
  by_cases hj : i / 8 = j
  · subst hj
    rw [if_pos rfl, if_pos (by rw [length_partW]; exact hl), partW_get ws _ _ hl]
    unfold partAt
    rw [show min 8 (i + 1 - 8 * (i / 8)) = i % 8 + 1 by omega, Nat.mul_comm]
  · rw [if_neg hj]
    by_cases h : j < ws.length
    · rw [partW_get ws i j h, partW_get ws _ j h]
      unfold partAt
      rw [show min 8 (i + 1 - 8 * j) = min 8 (i - 8 * j) by omega]
    · rw [List.getElem?_eq_none (by rw [length_partW]; omega), List.getElem?_eq_none (by rw [length_partW]; omega)]
/-- A byte is laid into a word. -/
theorem or_byte (v : Int) (hv : 0 ≤ v ∧ v < 18446744073709551616) (s : Nat) (hs : s < 8) : bits .or .u64 (v % 2 ^ (s * 8)) (IntKind.u64.wrap (v / 2 ^ (s * 8) % 256 * 2 ^ (s * 8))) = v % 2 ^ ((s + 1) * 8) := by
  obtain ⟨n, rfl⟩ := Int.eq_ofNat_of_zero_le hv.1
  have hp : ∀ k : Nat, (2 : Int) ^ k = ((2 ^ k : Nat) : Int) := fun k => (Int.natCast_pow 2 k).symm
  have key : n % 2 ^ (s * 8) + 2 ^ (s * 8) * (n / 2 ^ (s * 8) % 256) = n % 2 ^ ((s + 1) * 8) := by
    rw [show (s + 1) * 8 = s * 8 + 8 by omega, Nat.pow_add, Nat.mod_mul]
  have hlt : n % 2 ^ (s * 8) < 2 ^ (s * 8) := Nat.mod_lt _ (Nat.two_pow_pos _)
  have h64 : n % 2 ^ ((s + 1) * 8) < 18446744073709551616 := Nat.lt_of_le_of_lt (Nat.mod_le _ _) (by omega)
  have h2 := Nat.two_pow_add_eq_or_of_lt hlt (n / 2 ^ (s * 8) % 256)
  rw [hp (s * 8), hp ((s + 1) * 8)]
  generalize 2 ^ (s * 8) = a at *
  generalize 2 ^ ((s + 1) * 8) = b at *
  have e1 : ((n : Nat) : Int) / (a : Int) % 256 * (a : Int) = ((a * (n / a % 256) : Nat) : Int) := by
    rw [Int.natCast_mul, Int.natCast_emod, Int.natCast_ediv, Int.mul_comm]; rfl
  have e2 : ((n : Nat) : Int) % (a : Int) = ((n % a : Nat) : Int) := (Int.natCast_emod n a).symm
  have e3 : ((n : Nat) : Int) % (b : Int) = ((n % b : Nat) : Int) := (Int.natCast_emod n b).symm
  rw [e1, e2, e3, IntWalk.u64_in _ (by omega), bits_or_u64_nat _ _ (by omega) (by omega), Nat.or_comm, ← h2]
  congr 1
  omega
end Go.Proofs.Ytngkhligjkcbmaa

namespace Go.Proofs.Ytngkhligjkcbmaa
open Go.RowKit
set_option linter.unusedVariables false

theorem info_u8d : (Try.prog.info? 5).map (fun i => (i.zero, i.size, i.bytes)) = some (some (.int .u8 0), 1, 1) := by kernel_rfl
set_option maxRecDepth 100000 in
set_option maxHeartbeats 2000000 in
theorem bytesOfD (w : World) (A : Option Addr) (n c : Nat) (ws : List Int) (hn : ws.length = n) (hb : n ≤ 32768) (hf : Fits ws) (hR : Rd .u64 w A ws) :
    Calls Try.prog 86 #[.slice A n c] w fun e w' => ∃ g, e = .returned (.slice (some ⟨g, 0, none⟩) (8 * n) (8 * n)) ∧ IB .u8 5 w' g (bytesL ws) ∧ w.heap.size ≤ g ∧ Below w.heap.size w w' := by
  have HR := Lib.hid hR
  have HN := Lib.hid hn
  have HF := Lib.hid hf
  have hmk := fun W => run_make_z (P := Try.prog) 84 5 .u8 .i64 .i64 ((n : Int) * 8) (8 * n) (by omega) Try.underlying84 1 info_u8d (by omega) (by omega) W
  clear hR hn hf
  go_enter Try.func86, Try.ntmps86
  go_wp2
  have HI0 : Hid (IB .u8 5 (w.alloc (.cells (ia .u8 (List.replicate (8 * n) (0 : Int))) 5)) w.heap.size (byPad ws 0)) := by
    show IB _ _ _ _ _
    rw [byPad_zero, HN.out]; exact IB.new _ _
  have HB0 : Hid (Below w.heap.size w (w.alloc (.cells (ia .u8 (List.replicate (8 * n) (0 : Int))) 5))) := by show Below _ _ _; (repeat (first | with_reducible exact Below.refl _ _ | with_reducible refine bl_alloc ?_ _ | with_reducible refine bl_drew ?_ | with_reducible refine bl_drewN ?_ _ | with_reducible refine bl_bx ?_ _ | with_reducible exact BX.below _ | with_reducible refine bl_set ?_ (by first | (exact Nat.le_refl _) | (simp; done) | (simp; omega)) _ | assumption))
  obtain ⟨g, hg⟩ : ∃ g, w.heap.size = g := ⟨_, rfl⟩
  obtain ⟨W, hW⟩ : ∃ W, w.alloc (.cells (ia .u8 (List.replicate (8 * n) (0 : Int))) 5) = W := ⟨_, rfl⟩
  rw [hg, hW] at HI0
  rw [hW] at HB0
  rw [hg, hW]
  have HG := Lib.hid hg
  clear hW hg hmk
  go_loopw [11, 4, 12, 13, 14, 15, 16, 17, 18, 19, 20, 21, 22, 23, 24, 25, 26, 27, 28] (fun i _ _ _ _ _ _ _ _ _ _ _ _ _ _ _ _ _ _ wr => ∃ k : Nat, k ≤ 8 * n ∧ i = .int .i64 k ∧ IB .u8 5 wr g (byPad ws k) ∧ Below w.heap.size w wr) (fun i _ _ _ _ _ _ _ _ _ _ _ _ _ _ _ _ _ _ _ => 8 * n - (intOf i).toNat)
  case atStart => exact ⟨0, by omega, rfl, HI0.out, HB0.out⟩
  case round =>
    clear HI0 HB0
    obtain ⟨k, hk, rfl, hI, hB⟩ := hrel
    by_cases hlt : k < 8 * n
    · have hlt' : (k : Int) < 8 * (n : Int) := by omega
      have hk8 : k / 8 < ws.length := by rw [HN.out]; omega
      have hkn : k / 8 < n := by omega
      obtain ⟨b, o, rfl, hbb, hc⟩ := HR.out.at_ hk8
      have hbw := hB.size
      have hc' : wr.cell? ⟨b, o + k / 8, none⟩ = some (.int .u64 ws[k / 8]) := (hB.cell (p := ⟨b, o + k / 8, none⟩) hbb).trans hc
      have hbl : b < wr.heap.size := by omega
      have hcg := hI.cell (i := k) (by rw [length_byPad ws k (by rw [HN.out]; omega), HN.out]; exact hlt)
      have hfz := hI.frozen k
      have hgl := hI.lt
      have hgg : b ≠ g := by rw [← HG.out]; omega
      have HBY : Hid (ws[k / 8] / 2 ^ (k % 8 * 8) % 256 = byteAt ws k) := by
        show _ = _
        unfold byteAt
        rw [List.getElem?_eq_getElem hk8]; rfl
      have HST := Lib.hid (byPad_set ws k (by rw [HN.out]; exact hlt))
      obtain ⟨v, hv⟩ : ∃ v, ws[k / 8] = v := ⟨_, rfl⟩
      rw [hv] at hc' HBY
      have HI := Lib.hid hI
      have HB := Lib.hid hB
      clear hv hc hI hB
      go_wp2
      rw [HBY.out]
      refine ⟨⟨k + 1, by omega, by go_num, ?_, HB.out.setCell (p := ⟨g, k, none⟩) (by show w.heap.size ≤ g; rw [HG.out]; exact Nat.le_refl _) _⟩, by simp [intOf]; omega⟩
      rw [← HST.out]
      exact HI.out.set k _
    · obtain rfl : k = 8 * n := by omega
      have hI' : IB .u8 5 wr g (bytesL ws) := by
        have := hI
        rwa [show 8 * n = 8 * ws.length by rw [HN.out], byPad_all] at this
      have HI := Lib.hid hI'
      have HB := Lib.hid hB
      clear hI hB hI'
      go_wp2
      go_ret
      exact ⟨g, rfl, HI.out, by rw [← HG.out]; exact Nat.le_refl _, HB.out⟩
end Go.Proofs.Ytngkhligjkcbmaa

namespace Go.Proofs.Ytngkhligjkcbmaa
open Go.RowKit
set_option linter.unusedVariables false

/-- What From leaves. -/
def FromPost (w : World) (S : DevS) (e : Ending) (w' : World) : Prop :=
  ∃ d L, e = .returned (.tuple #[.pointer (some ⟨d, 0, none⟩), .int .i64 0]) ∧ Dev w' d L S ∧ Below w.heap.size w w' ∧ ∀ b, Fp L b → w.heap.size ≤ b
set_option maxRecDepth 100000 in
set_option maxHeartbeats 2000000 in
theorem devFrom (w : World) (A : Option Addr) (n c : Nat) (ws : List Int) (h1 : 1 ≤ n) (h2 : n ≤ 4096) (hw : ws.length = 8 * n) (hf : Fits ws) (hR : Rd .u8 w A (bytesL ws)) :
    Calls Try.prog 64 #[.slice A (64 * n) c] w (FromPost w (newS ws n)) := by
  have HR := Lib.hid hR
  have HN := Lib.hid hw
  have HF := Lib.hid hf
  have hmk := fun W => run_make_z (P := Try.prog) 52 30 .u64 .i64 .i64 (8 * (n : Int)) (8 * n) (by omega) Try.underlying52 8 info_u64 (by omega) (by omega) W
  have q1 : (64 * (n : Int)) % 64 = 0 := by omega
  have q2 : (64 * (n : Int)) / 64 = (n : Int) := by omega
  have q3 : (64 * (n : Int)) / 8 = 8 * (n : Int) := by omega
  have q4 : ¬ (n : Int) > 4096 := by omega
  have q5 : ((64 * (n : Int)) == 0) = false := by simp; omega
  clear hR hw hf
  go_enter Try.func64, Try.ntmps64
  go_wp2
  have HI0 : Hid (IB .u64 30 (w.alloc (.cells (ia .u64 (List.replicate (8 * n) (0 : Int))) 30)) w.heap.size (partW ws 0)) := by
    show IB _ _ _ _ _
    rw [partW_zero, HN.out]; exact IB.new _ _
  have HB0 : Hid (Below w.heap.size w (w.alloc (.cells (ia .u64 (List.replicate (8 * n) (0 : Int))) 30))) := by show Below _ _ _; (repeat (first | with_reducible exact Below.refl _ _ | with_reducible refine bl_alloc ?_ _ | with_reducible refine bl_drew ?_ | with_reducible refine bl_drewN ?_ _ | with_reducible refine bl_bx ?_ _ | with_reducible exact BX.below _ | with_reducible refine bl_set ?_ (by first | (exact Nat.le_refl _) | (simp; done) | (simp; omega)) _ | assumption))
  obtain ⟨g, hg⟩ : ∃ g, w.heap.size = g := ⟨_, rfl⟩
  obtain ⟨W, hW⟩ : ∃ W, w.alloc (.cells (ia .u64 (List.replicate (8 * n) (0 : Int))) 30) = W := ⟨_, rfl⟩
  rw [hg, hW] at HI0
  rw [hW] at HB0
  rw [hg, hW]
  have HG := Lib.hid hg
  clear hW hg hmk
  go_loopw [26, 5, 6, 27, 28, 29, 30, 31, 32, 33, 34, 35, 36, 37, 38, 39, 40, 41, 42, 43, 44, 45] (fun i _ _ _ _ _ _ _ _ _ _ _ _ _ _ _ _ _ _ _ _ _ wr => ∃ k : Nat, k ≤ 64 * n ∧ i = .int .i64 k ∧ IB .u64 30 wr g (partW ws k) ∧ Below w.heap.size w wr) (fun i _ _ _ _ _ _ _ _ _ _ _ _ _ _ _ _ _ _ _ _ _ _ => 64 * n - (intOf i).toNat)
  case atStart => exact ⟨0, by omega, rfl, HI0.out, HB0.out⟩
  case round =>
    clear HI0 HB0
    obtain ⟨k, hk, rfl, hI, hB⟩ := hrel
    by_cases hlt : k < 64 * n
    · have hlt' : (k : Int) < 64 * (n : Int) := by omega
      have hk8 : k / 8 < ws.length := by rw [HN.out]; omega
      have hkn : k / 8 < 8 * n := by omega
      have hkb : k < (bytesL ws).length := by rw [length_bytesL, HN.out]; omega
      obtain ⟨b, o, rfl, hbb, hc⟩ := HR.out.at_ hkb
      rw [bytesL_get] at hc
      have hbw := hB.size
      have hc' : wr.cell? ⟨b, o + k, none⟩ = some (.int .u8 (byteAt ws k)) := (hB.cell (p := ⟨b, o + k, none⟩) hbb).trans hc
      have hbl : b < wr.heap.size := by omega
      have hcg : wr.cell? ⟨g, k / 8, none⟩ = some (.int .u64 (ws[k / 8] % 2 ^ (k % 8 * 8))) := by
        have h3 := hI.cell (i := k / 8) (by rw [length_partW]; exact hk8)
        have h4 := partW_get ws k (k / 8) hk8
        rw [partAt_now, List.getElem?_eq_getElem hk8] at h4
        rw [List.getElem?_eq_getElem (by rw [length_partW]; exact hk8)] at h4
        injection h4 with h4
        rw [h4] at h3
        exact h3
      have hfz := hI.frozen (k / 8)
      have hgl := hI.lt
      have hgg : b ≠ g := by rw [← HG.out]; omega
      have hvr := HF.out _ (List.getElem_mem hk8)
      have hor := or_byte ws[k / 8] hvr (k % 8) (by omega)
      have hbyt : byteAt ws k = ws[k / 8] / 2 ^ (k % 8 * 8) % 256 := by unfold byteAt; rw [List.getElem?_eq_getElem hk8]; rfl
      rw [← hbyt] at hor
      have hbr := byteAt_range ws k
      have HST := Lib.hid (partW_step ws k (by rw [HN.out]; omega))
      rw [List.getElem?_eq_getElem hk8] at HST
      obtain ⟨bt, hbt⟩ : ∃ bt, byteAt ws k = bt := ⟨_, rfl⟩
      obtain ⟨od, hod⟩ : ∃ od, ws[k / 8] % 2 ^ (k % 8 * 8) = od := ⟨_, rfl⟩
      obtain ⟨nw, hnw⟩ : ∃ nw, ws[k / 8] % 2 ^ ((k % 8 + 1) * 8) = nw := ⟨_, rfl⟩
      rw [hbt] at hc' hor hbr
      rw [hod] at hcg hor
      rw [hnw] at hor
      have HST2 : Hid ((partW ws k).set (k / 8) nw = partW ws (k + 1)) := by
        show _ = _
        rw [← hnw]; exact HST.out
      have e1 : IntKind.u64.wrap bt = bt := IntWalk.u64_in _ (by omega)
      have HI := Lib.hid hI
      have HB := Lib.hid hB
      clear hc hI hB hbt hod hnw hbyt hvr HST
      go_wp2
      refine ⟨⟨k + 1, by omega, by go_num, ?_, HB.out.setCell (p := ⟨g, k / 8, none⟩) (by show w.heap.size ≤ g; rw [HG.out]; exact Nat.le_refl _) _⟩, by simp [intOf]; omega⟩
      rw [← HST2.out]
      exact HI.out.set (k / 8) _
    · obtain rfl : k = 64 * n := by omega
      have hI' : IB .u64 30 wr g ws := by
        have := hI
        rwa [show 64 * n = 8 * ws.length by rw [HN.out]; omega, partW_all ws HF.out] at this
      have HI := Lib.hid hI'
      have HB := Lib.hid hB
      clear hI hB hI'
      go_wp2_with (go_at_call 97; refine (devOf _ g n ws HI.out HN.out h1 h2).mono ?_; rintro e w2 ⟨d, L, rfl, hD, hb, hF⟩; have HD := Lib.hid hD; have HB2 := Lib.hid hb; have HFP := Lib.hid hF; clear hD hb hF)
      go_ret2
      refine ⟨d, L, rfl, HD.out, HB.out.trans (HB2.out.mono HB.out.size), fun b hb => ?_⟩
      rcases HFP.out b hb with h | h
      · rw [h, ← HG.out]; exact Nat.le_refl _
      · exact Nat.le_trans HB.out.size h
end Go.Proofs.Ytngkhligjkcbmaa

namespace Go.Proofs.Ytngkhligjkcbmaa
open Go.RowKit
set_option linter.unusedVariables false

section
variable {F : Nat → Prop} {d : Nat} {t : Nat → Nat} {w : World} {S : DevS} {N : Nat}
theorem vLoad (h : DV F d t w S) (i : Nat) (hi : i < 8) (hO : S.off = false) (k : Nat) (v : Int) (hk : S.cur[k]? = some v) :
    Calls Try.prog 54 #[.pointer (some ⟨t i, 0, none⟩), .int .u64 (8 * (k : Int))] w fun e w' => e = .returned (.int .u64 v) ∧ w = w' := by
  obtain ⟨_, L, rfl, h3, _⟩ := h
  obtain ⟨hl, hv⟩ := List.getElem?_eq_some_iff.1 hk
  have := thLoad_ok w d L S h3 i hi hO k hl
  rwa [hv] at this
theorem vErr (h : DV F d t w S) (i : Nat) (hi : i < 8) : Calls Try.prog 51 #[.pointer (some ⟨t i, 0, none⟩)] w fun e w' => e = .returned (.int .i64 (S.thr i).err) ∧ w = w' := by
  obtain ⟨_, L, rfl, h3, _⟩ := h
  exact thErr w d L S h3 i hi
theorem vSize (h : DV F d t w S) (i : Nat) (hi : i < 8) : Calls Try.prog 155 #[.pointer (some ⟨t i, 0, none⟩)] w fun e w' => e = .returned (.int .u64 ((S.lns.length : Int) * 64)) ∧ w = w' := by
  obtain ⟨_, L, rfl, h3, _⟩ := h
  exact thSize w d L S h3 i hi
theorem vThread (h : DV F d t w S) (i : Nat) (hi : i < 8) : Calls Try.prog 22 #[.pointer (some ⟨d, 0, none⟩), .int .i64 (i : Int)] w fun e w' => e = .returned (.pointer (some ⟨t i, 0, none⟩)) ∧ w = w' := by
  obtain ⟨_, L, rfl, h3, _⟩ := h
  exact devThread w d L S h3 i hi
end
/-- A device of n lines that is on, with those words. -/
structure On (S : DevS) (n : Nat) (xs : List Int) (N : Nat) : Prop where
  good : Good S N
  nl : S.lns.length = n
  cur : S.cur = xs
  off : S.off = false
  armed : S.armed = false
  err : ∀ j, (S.thr j).err = 0
theorem new_on (xs : List Int) (n : Nat) (hx : xs.length = 8 * n) : On (newS xs n) n xs 0 := by
  refine ⟨⟨by simpa [newS] using hx, by simpa [newS] using hx, fun q l hl => ?_, fun i hi => ⟨Nat.le_refl _, fun x c hc => by simp [newS] at hc⟩⟩, by simp [newS], rfl, rfl, rfl, fun _ => rfl⟩
  simp only [newS, List.getElem?_replicate] at hl
  split at hl
  · injection hl with hl; subst hl; simp
  · cases hl
theorem On.length {S : DevS} {n : Nat} {xs : List Int} {N : Nat} (h : On S n xs N) : xs.length = 8 * n := by rw [← h.cur, h.good.nc, h.nl]
theorem On.mono {S : DevS} {n : Nat} {xs : List Int} {N M : Nat} (h : On S n xs N) (hM : N ≤ M) : On S n xs M := ⟨h.good.mono hM, h.nl, h.cur, h.off, h.armed, h.err⟩
theorem On.store {S : DevS} {n : Nat} {xs : List Int} {N : Nat} (h : On S n xs N) (i k : Nat) (hk : k < 8 * n) (v : Int) : On (S.store i (8 * (k : Int)) v) n (xs.set k v) (N + 1) := by
  have hG := h.good.store i (8 * (k : Int)) v (by omega)
  have hw : S.wordB (8 * (k : Int)) = true := by unfold DevS.wordB; simp [h.nl]; omega
  have hq : ((8 * (k : Int)) / 8).toNat = k := by omega
  have hE : S.store i (8 * (k : Int)) v = ({ S with exec := IntKind.u64.wrap (S.exec + 1) } : DevS).write k v := by
    unfold DevS.store
    rw [hw, hq]
    simp [DevS.cntB, DevS.cnt, DevS.onB, h.off, h.armed]
  rw [hE] at hG ⊢
  exact ⟨hG, by simp [DevS.write, h.nl], by show S.cur.set k v = _; rw [h.cur], h.off, h.armed, h.err⟩
/-- What a thread loads. -/
def LdV (T : Nat) (xs : List Int) (w : World) : Prop := ∀ W, Below w.heap.size w W → ∀ (k : Nat) (v : Int), xs[k]? = some v → Calls Try.prog 54 #[.pointer (some ⟨T, 0, none⟩), .int .u64 (8 * (k : Int))] W fun e w' => e = .returned (.int .u64 v) ∧ W = w'
theorem LdV.below {T : Nat} {xs : List Int} {w w' : World} (h : LdV T xs w) (hb : Below w.heap.size w w') : LdV T xs w' := fun W hW => h W (hb.trans (hW.mono hb.size))
theorem ldV {F : Nat → Prop} {d : Nat} {t : Nat → Nat} {w : World} {S : DevS} {n N : Nat} {xs : List Int} (h : DV F d t w S) (hO : On S n xs N) (i : Nat) (hi : i < 8) : LdV (t i) xs w :=
  fun W hW k v hk => vLoad (h.below hW) i hi hO.off k v (by rw [hO.cur]; exact hk)
end Go.Proofs.Ytngkhligjkcbmaa

namespace Go.Proofs.Ytngkhligjkcbmaa
open Go.RowKit
set_option linter.unusedVariables false

/-- The last value that was stored at an offset. -/
def lastV (log : List (Int × Int)) (x : Int) : Option Int := log.foldl (fun o p => if p.1 = x then some p.2 else o) none
theorem lastV_nil (x : Int) : lastV [] x = none := rfl
theorem lastV_snoc (log : List (Int × Int)) (p : Int × Int) (x : Int) : lastV (log ++ [p]) x = if p.1 = x then some p.2 else lastV log x := by simp [lastV]

theorem under_u64a : Try.prog.underlying 30 = some (.int .u64) := Try.underlying30
/-- A map of words by their offsets. -/
def UMap (w : World) (b : Nat) (nt : Int → Option Int) (n : Nat) : Prop :=
  ∃ D : DataW Unit, w.ownsMap Try.prog 30 (plainElem Try.prog 30) b n D ∧
    ∀ x, (Lit.int .u64 x).wf = true → Maps.has D (.int .u64 x) = (nt x).isSome ∧ ∀ c, nt x = some c → ∀ z, D.atKey (.int .u64 x) z = .lit (.int .u64 c)
theorem UMap.keep {w w' : World} {b : Nat} {nt : Int → Option Int} {n : Nat} (h : UMap w b nt n) (hb : w'.heap[b]? = w.heap[b]?) : UMap w' b nt n := by
  obtain ⟨D, ⟨es, clock, h1, r⟩, h2⟩ := h
  exact ⟨D, ⟨es, clock, hb.trans h1, r⟩, h2⟩
theorem UMap.lt {w : World} {b : Nat} {nt : Int → Option Int} {n : Nat} (h : UMap w b nt n) : b < w.heap.size := by
  obtain ⟨D, h1, _⟩ := h
  exact h1.lt
theorem UMap.put {w' : World} {b n : Nat} {nt : Int → Option Int} (q c : Int) (D : DataW Unit) (hM : Maps.IsMap D) (hD : ∀ x, (Lit.int .u64 x).wf = true → Maps.has D (.int .u64 x) = (nt x).isSome ∧ ∀ c, nt x = some c → ∀ z, D.atKey (.int .u64 x) z = .lit (.int .u64 c))
    (h : w'.ownsMap Try.prog 30 (plainElem Try.prog 30) b (n + 1) (D.put (.int .u64 q) (.lit (.int .u64 c)))) :
    UMap w' b (fun x => if q = x then some c else nt x) (n + 1) := by
  have hk : WideAt.IsKeyLit (Lit.int .u64 q) := by simp [WideAt.IsKeyLit]
  refine ⟨_, h, fun x hx => ?_⟩
  by_cases hxq : x = q
  · subst hxq
    simp only [if_true]
    refine ⟨by rw [Maps.has_put_same hM hk]; rfl, fun c' hc' z => ?_⟩
    injection hc' with hc'
    subst hc'
    exact Maps.atKey_put_same hM hk _ _
  · have hne : (Lit.int .u64 x) ≠ Lit.int .u64 q := fun h => hxq (by injection h)
    have hne' : ¬ q = x := fun h => hxq h.symm
    simp only [hne', if_false]
    rw [Maps.has_put_other hne]
    exact ⟨(hD x hx).1, fun c' hc' z => by rw [Maps.atKey_put_other hne]; exact (hD x hx).2 c' hc' z⟩
/-- A cleared map has no words. -/
theorem UMap.cleared (w : World) (r clock : Nat) (h : r < w.heap.size) : UMap { w with heap := w.heap.setIfInBounds r (.map #[] clock) } r (fun _ => none) 0 :=
  ⟨.map [], ⟨#[], clock, by simp [h], ⟨by simp, Go.MapKept.stamped_empty clock, by simp⟩, Nat.le_refl _, rfl⟩, fun x hx => ⟨by rfl, fun c hc => by simp at hc⟩⟩

/-- An overlay: the buffered stores, the marks (number, how many stores), the next mark's number, and whether a store was not to a word. -/
structure OvS where
  log : List (Int × Int)
  marks : List (Int × Nat)
  next : Int
  broken : Bool
def mcells (ms : List (Int × Nat)) : List Value := ms.flatMap fun p => [.int .i64 p.1, .int .i64 (p.2 : Int)]
theorem mcells_snoc (ms : List (Int × Nat)) (p : Int × Nat) : mcells (ms ++ [p]) = mcells ms ++ [.int .i64 p.1, .int .i64 (p.2 : Int)] := by simp [mcells]
theorem length_mcells (ms : List (Int × Nat)) : (mcells ms).length = ms.length * 2 := by
  induction ms with
  | nil => rfl
  | cons p ms ih => rw [mcells, List.flatMap_cons, List.length_append, List.length_cons]; change _ + (mcells ms).length = _; rw [ih]; simp; omega
theorem mcells_get (ms : List (Int × Nat)) : ∀ (k : Nat) (h : k < ms.length), (mcells ms)[k * 2]? = some (.int .i64 ms[k].1) ∧ (mcells ms)[k * 2 + 1]? = some (.int .i64 (ms[k].2 : Int)) := by
  induction ms with
  | nil => intro k h; simp at h
  | cons p ms ih =>
    intro k h
    cases k with
    | zero => simp [mcells]
    | succ k =>
      have := ih k (by simpa using h)
      rw [show mcells (p :: ms) = .int .i64 p.1 :: .int .i64 (p.2 : Int) :: mcells ms from rfl, show (k + 1) * 2 = k * 2 + 1 + 1 by omega]
      simpa using this
theorem mcells_take (ms : List (Int × Nat)) : ∀ k, (mcells ms).take (k * 2) = mcells (ms.take k) := by
  induction ms with
  | nil => intro k; simp [mcells]
  | cons p ms ih =>
    intro k
    cases k with
    | zero => simp [mcells]
    | succ k => rw [show mcells (p :: ms) = .int .i64 p.1 :: .int .i64 (p.2 : Int) :: mcells ms from rfl, show (k + 1) * 2 = k * 2 + 1 + 1 by omega, List.take_succ_cons, List.take_succ_cons, ih]; rfl
/-- A slice with no room behind it. -/
theorem Sl.clip {e : TypeId} {size : Nat} {w : World} {A : Option Addr} {n c : Nat} {xs : List Value} (h : Sl e size w A n c xs) (k : Nat) (hk : k ≤ n) : Sl e size w A k k (xs.take (k * size)) := by
  obtain ⟨h1, h2⟩ := h.take k hk
  refine ⟨h1, ?_⟩
  rcases h2 with ⟨r1, r2, r3⟩ | ⟨g, off, cur, hA, hC, hn, hm, hfit, ht⟩
  · exact .inl ⟨r1, r2, by omega⟩
  · have : k * size ≤ c * size := Nat.mul_le_mul_right _ hn
    exact .inr ⟨g, off, cur, hA, hC, Nat.le_refl _, by omega, by omega, ht⟩

/-- An overlay in memory, over the base B. -/
structure OvD (w : World) (o : Nat) (B : Value) (mb : Nat) (la : Option Addr) (lc : Nat) (ma : Option Addr) (mc : Nat) (S : OvS) : Prop where
  ov : CB w o 110 #[B, .map (some mb), .slice la S.log.length lc, .slice ma S.marks.length mc, .int .i64 S.next, .bool S.broken]
  mp : UMap w mb (lastV S.log) S.log.length
  lg : Sl 34 2 w la S.log.length lc (wcells S.log)
  mks : Sl 116 2 w ma S.marks.length mc (mcells S.marks)
  om : o ≠ mb
  ol : ∀ b, OwnB la b → b ≠ o ∧ b ≠ mb
  oa : ∀ b, OwnB ma b → b ≠ o ∧ b ≠ mb ∧ ¬ OwnB la b
/-- An overlay whose blocks are in F; new blocks are in F. -/
def OV (F : Nat → Prop) (o : Nat) (B : Value) (w : World) (S : OvS) : Prop :=
  (∀ b, w.heap.size ≤ b → F b) ∧ ∃ mb la lc ma mc, OvD w o B mb la lc ma mc S ∧ F o ∧ F mb ∧ (∀ b, OwnB la b → F b) ∧ ∀ b, OwnB ma b → F b

section
variable {F G : Nat → Prop} {o : Nat} {B : Value} {w w' : World} {S : OvS}
theorem OvD.keep {mb : Nat} {la : Option Addr} {lc : Nat} {ma : Option Addr} {mc : Nat} (h : OvD w o B mb la lc ma mc S) (hb : ∀ b, b = o ∨ b = mb ∨ OwnB la b ∨ OwnB ma b → w'.heap[b]? = w.heap[b]?) : OvD w' o B mb la lc ma mc S :=
  ⟨h.ov.keep (hb _ (.inl rfl)), h.mp.keep (hb _ (.inr (.inl rfl))), h.lg.keep (fun b h => hb _ (.inr (.inr (.inl h)))), h.mks.keep (fun b h => hb _ (.inr (.inr (.inr h)))), h.om, h.ol, h.oa⟩
theorem OvD.lt {mb : Nat} {la : Option Addr} {lc : Nat} {ma : Option Addr} {mc : Nat} (h : OvD w o B mb la lc ma mc S) {b : Nat} (hb : b = o ∨ b = mb ∨ OwnB la b ∨ OwnB ma b) : b < w.heap.size := by
  rcases hb with rfl | rfl | hb | hb
  · exact h.ov.lt
  · exact h.mp.lt
  · exact h.lg.lt hb
  · exact h.mks.lt hb
theorem OV.ch {T : Nat → Prop} (h : OV F o B w S) (hc : Ch T w w') (hT : ∀ b, b < w.heap.size → F b → ¬ T b) : OV F o B w' S := by
  obtain ⟨h1, mb, la, lc, ma, mc, h2, f1, f2, f3, f4⟩ := h
  refine ⟨fun b hb => h1 b (Nat.le_trans hc.size hb), mb, la, lc, ma, mc, h2.keep (fun b hb => ?_), f1, f2, f3, f4⟩
  have hl := h2.lt hb
  refine hc.block b hl (hT b hl ?_)
  rcases hb with rfl | rfl | hb | hb
  · exact f1
  · exact f2
  · exact f3 b hb
  · exact f4 b hb
theorem OV.below (h : OV F o B w S) (hb : Below w.heap.size w w') : OV F o B w' S := h.ch (T := fun _ => False) (Ch.of_below hb) (fun _ _ _ hf => hf)
theorem OV.bx (h : OV F o B w S) (x : BX w) : OV F o B x.w S := h.below x.below
theorem OV.alloc (h : OV F o B w S) (ob : Obj) : OV F o B (w.alloc ob) S := h.below (bl_alloc (Below.refl _ _) _)
theorem OV.drewN (h : OV F o B w S) (n : Nat) : OV F o B (w.drewN n) S := h.below (below_drewN (Below.refl _ _) n)
/-- Blocks that were made since belong to others. -/
theorem OV.less (h : OV F o B w S) (hb : Below w.heap.size w w') (X : Nat → Prop) (hX : ∀ b, X b → w.heap.size ≤ b ∧ b < w'.heap.size) : OV (fun b => F b ∧ ¬ X b) o B w' S := by
  obtain ⟨h1, mb, la, lc, ma, mc, h2, f1, f2, f3, f4⟩ := h
  have hn : ∀ b, (b = o ∨ b = mb ∨ OwnB la b ∨ OwnB ma b) → ¬ X b := fun b hb hx => by have := h2.lt hb; have := hX b hx; omega
  refine ⟨fun b hb' => ⟨h1 b (by have := hb.size; omega), fun hx => by have := hX b hx; omega⟩, mb, la, lc, ma, mc, h2.keep (fun b hb' => hb.block b (h2.lt hb')), ⟨f1, hn _ (.inl rfl)⟩, ⟨f2, hn _ (.inr (.inl rfl))⟩, fun b hb' => ⟨f3 b hb', hn _ (.inr (.inr (.inl hb')))⟩, fun b hb' => ⟨f4 b hb', hn _ (.inr (.inr (.inr hb')))⟩⟩
end
end Go.Proofs.Ytngkhligjkcbmaa

namespace Go.Proofs.Ytngkhligjkcbmaa
open Go.RowKit
set_option linter.unusedVariables false

/-- The thread of a device of n lines with those words, as the base of an overlay. -/
structure BaseM (T n : Nat) (xs : List Int) (w : World) : Prop where
  load : ∀ W, Below w.heap.size w W → ∀ (k : Nat) (v : Int), xs[k]? = some v → Calls Try.prog 54 #[.pointer (some ⟨T, 0, none⟩), .int .u64 (8 * (k : Int))] W fun e w' => e = .returned (.int .u64 v) ∧ W = w'
  size : ∀ W, Below w.heap.size w W → Calls Try.prog 155 #[.pointer (some ⟨T, 0, none⟩)] W fun e w' => e = .returned (.int .u64 ((n : Int) * 64)) ∧ W = w'
  err : ∀ W, Below w.heap.size w W → Calls Try.prog 51 #[.pointer (some ⟨T, 0, none⟩)] W fun e w' => e = .returned (.int .i64 0) ∧ W = w'
theorem BaseM.below {T n : Nat} {xs : List Int} {w w' : World} (h : BaseM T n xs w) (hb : Below w.heap.size w w') : BaseM T n xs w' :=
  ⟨fun W hW => h.load W (hb.trans (hW.mono hb.size)), fun W hW => h.size W (hb.trans (hW.mono hb.size)), fun W hW => h.err W (hb.trans (hW.mono hb.size))⟩
theorem baseM {F : Nat → Prop} {d : Nat} {t : Nat → Nat} {w : World} {S : DevS} {n N : Nat} {xs : List Int} (h : DV F d t w S) (hO : On S n xs N) (i : Nat) (hi : i < 8) : BaseM (t i) n xs w :=
  ⟨fun W hW k v hk => vLoad (h.below hW) i hi hO.off k v (by rw [hO.cur]; exact hk), fun W hW => by have := vSize (h.below hW) i hi; rwa [hO.nl] at this, fun W hW => by have := vErr (h.below hW) i hi; rwa [hO.err] at this⟩
def bT (T : Nat) : Value := .iface 49 (.pointer (some ⟨T, 0, none⟩))

theorem zeroU (w : World) : (zeroValue 30).run Try.prog w = .ok (.int .u64 0) w := by kernel_rfl
theorem under_words : Try.prog.underlying 107 = some (.map 30 30) := Try.underlying107
theorem keyedU : Maps.Keyed Try.prog 30 := Maps.int_keyed Try.underlying30
theorem wf_u64_mk {x : Int} (h : 0 ≤ x ∧ x < 18446744073709551616) : (Lit.int .u64 x).wf = true := wf_mk _ _ (by show (0 : Int) ≤ _; exact h.1) (by show _ ≤ (18446744073709551615 : Int); omega)

set_option maxHeartbeats 400000 in
theorem ovOver (w : World) (T : Nat) :
    Calls Try.prog 21 #[bT T] w fun e w' => ∃ o, e = .returned (.pointer (some ⟨o, 0, none⟩)) ∧ OV (fun b => w.heap.size ≤ b) o (bT T) w' ⟨[], [], 0, false⟩ ∧ Below w.heap.size w w' := by
  have hmm := @run_makeMap Try.prog
  try unfold bT
  go_enter Try.func21, Try.ntmps21
  go_wp2
  go_ret
  refine ⟨_, rfl, ⟨fun b hb => ?_, w.heap.size, none, 0, none, 0, ?_, by simp, Nat.le_refl _, by simp [OwnB], by simp [OwnB]⟩, (by repeat (first | with_reducible exact Below.refl _ _ | with_reducible refine bl_alloc ?_ _ | with_reducible refine bl_drew ?_ | with_reducible refine bl_drewN ?_ _ | with_reducible refine bl_bx ?_ _ | with_reducible exact BX.below _ | with_reducible refine bl_set ?_ (by first | (exact Nat.le_refl _) | (simp; done) | (simp; omega)) _ | assumption))⟩
  · simp at hb
    show w.heap.size ≤ b
    omega
  refine ⟨CB.new_at _ _ _ ?_, ?_, Sl.nil, Sl.nil, ?_, by simp [OwnB], by simp [OwnB]⟩
  · simp
  · exact ⟨.map [], ⟨#[], 0, (Below.heap_alloc (w.alloc _) _ _ (by simp)).trans (heap_alloc_new w _), ⟨by simp, Go.MapKept.stamped_empty 0, by simp⟩, Nat.le_refl _, rfl⟩, fun x hx => ⟨by rfl, fun c hc => by simp [lastV] at hc⟩⟩
  · show w.heap.size + 1 ≠ w.heap.size
    omega
set_option maxHeartbeats 400000 in
theorem ovOverN (w : World)  :
    Calls Try.prog 21 #[.nilIface] w fun e w' => ∃ o, e = .returned (.pointer (some ⟨o, 0, none⟩)) ∧ OV (fun b => w.heap.size ≤ b) o (.nilIface) w' ⟨[], [], 0, false⟩ ∧ Below w.heap.size w w' := by
  have hmm := @run_makeMap Try.prog
  try unfold bT
  go_enter Try.func21, Try.ntmps21
  go_wp2
  go_ret
  refine ⟨_, rfl, ⟨fun b hb => ?_, w.heap.size, none, 0, none, 0, ?_, by simp, Nat.le_refl _, by simp [OwnB], by simp [OwnB]⟩, (by repeat (first | with_reducible exact Below.refl _ _ | with_reducible refine bl_alloc ?_ _ | with_reducible refine bl_drew ?_ | with_reducible refine bl_drewN ?_ _ | with_reducible refine bl_bx ?_ _ | with_reducible exact BX.below _ | with_reducible refine bl_set ?_ (by first | (exact Nat.le_refl _) | (simp; done) | (simp; omega)) _ | assumption))⟩
  · simp at hb
    show w.heap.size ≤ b
    omega
  refine ⟨CB.new_at _ _ _ ?_, ?_, Sl.nil, Sl.nil, ?_, by simp [OwnB], by simp [OwnB]⟩
  · simp
  · exact ⟨.map [], ⟨#[], 0, (Below.heap_alloc (w.alloc _) _ _ (by simp)).trans (heap_alloc_new w _), ⟨by simp, Go.MapKept.stamped_empty 0, by simp⟩, Nat.le_refl _, rfl⟩, fun x hx => ⟨by rfl, fun c hc => by simp [lastV] at hc⟩⟩
  · show w.heap.size + 1 ≠ w.heap.size
    omega

/-- What a call that only reads an overlay says. -/
theorem OV.base {F : Nat → Prop} {o : Nat} {B : Value} {w : World} {S : OvS} (h : OV F o B w S) : w.cell? ⟨o, 0, none⟩ = some B ∧ o < w.heap.size := by
  obtain ⟨_, mb, la, lc, ma, mc, h2, _⟩ := h
  exact ⟨h2.ov.cell_some rfl, h2.ov.lt⟩
theorem OV.brk {F : Nat → Prop} {o : Nat} {B : Value} {w : World} {S : OvS} (h : OV F o B w S) : w.cell? ⟨o, 5, none⟩ = some (.bool S.broken) := by
  obtain ⟨_, mb, la, lc, ma, mc, h2, _⟩ := h
  exact h2.ov.cell_some rfl

set_option maxHeartbeats 1000000 in
theorem ovSize {F : Nat → Prop} {o T n : Nat} {xs : List Int} {S : OvS} (w : World) (h : OV F o (bT T) w S) (hB : BaseM T n xs w) :
    Calls Try.prog 33 #[.pointer (some ⟨o, 0, none⟩)] w fun e w' => e = .returned (.int .u64 ((n : Int) * 64)) ∧ w = w' := by
  obtain ⟨h0, hl⟩ := h.base
  have HS := Lib.hid (hB.size w (Below.refl _ _))
  unfold bT at h0
  clear h hB
  go_enter Try.func33, Try.ntmps33
  go_wp2_with (first | (go_at_call 155; refine HS.out.mono ?_; rintro e w' ⟨rfl, rfl⟩))
  go_ret
  exact ⟨rfl, rfl⟩
set_option maxHeartbeats 1000000 in
theorem ovErr {F : Nat → Prop} {o T n : Nat} {xs : List Int} {S : OvS} (w : World) (h : OV F o (bT T) w S) (hB : BaseM T n xs w) :
    Calls Try.prog 41 #[.pointer (some ⟨o, 0, none⟩)] w fun e w' => e = .returned (.int .i64 (if S.broken then 2 else 0)) ∧ w = w' := by
  obtain ⟨h0, hl⟩ := h.base
  have h5 := h.brk
  have HS := Lib.hid (hB.err w (Below.refl _ _))
  unfold bT at h0
  clear h hB
  cases hb : S.broken <;> rw [hb] at h5
  · go_enter Try.func41, Try.ntmps41
    go_wp2_with (first | (go_at_call 51; refine HS.out.mono ?_; rintro e w' ⟨rfl, rfl⟩))
    go_ret
    exact ⟨rfl, rfl⟩
  · go_enter Try.func41, Try.ntmps41
    go_wp2_with (first | (go_at_call 51; refine HS.out.mono ?_; rintro e w' ⟨rfl, rfl⟩))
    go_ret
    exact ⟨rfl, rfl⟩

set_option maxHeartbeats 400000 in
theorem ovFlush (w : World) (v : Value) (off : Int) : Calls Try.prog 29 #[v, .int .u64 off] w fun e w' => e = .returned (.tuple #[]) ∧ w = w' := by
  go_enter Try.func29, Try.ntmps29
  go_wp2
  go_end0
  exact ⟨rfl, rfl⟩
set_option maxHeartbeats 400000 in
theorem ovFence (w : World) (v : Value) : Calls Try.prog 30 #[v] w fun e w' => e = .returned (.tuple #[]) ∧ w = w' := by
  go_enter Try.func30, Try.ntmps30
  go_wp2
  go_end0
  exact ⟨rfl, rfl⟩

set_option maxHeartbeats 1000000 in
theorem ovLoad {F : Nat → Prop} {o T n : Nat} {xs : List Int} {S : OvS} (w : World) (h : OV F o (bT T) w S) (hB : BaseM T n xs w) (k : Nat) (v : Int) (hk : xs[k]? = some v) (hk2 : k < 1000000) :
    Calls Try.prog 40 #[.pointer (some ⟨o, 0, none⟩), .int .u64 (8 * (k : Int))] w fun e w' => e = .returned (.int .u64 ((lastV S.log (8 * (k : Int))).getD v)) ∧ w = w' := by
  obtain ⟨h0, hl⟩ := h.base
  have HS := Lib.hid (hB.load w (Below.refl _ _) k v hk)
  obtain ⟨_, mb, la, lc, ma, mc, h2, _⟩ := h
  have h1 : w.cell? ⟨o, 1, none⟩ = some (.map (some mb)) := h2.ov.cell_some rfl
  obtain ⟨D, hown, hD⟩ := h2.mp
  have HO := Lib.hid hown
  have hwf : (Lit.int .u64 (8 * (k : Int))).wf = true := wf_u64_mk (by omega)
  obtain ⟨hD1, hD2⟩ := hD _ hwf
  have HD2 := Lib.hid hD2
  unfold bT at h0
  clear h2 hB hown hD hD2
  cases hc : lastV S.log (8 * (k : Int)) with
  | none =>
    rw [hc] at hD1
    have hD1' : Maps.has D (Lit.int .u64 (8 * (k : Int))) = false := hD1
    clear hD1
    go_enter Try.func40, Try.ntmps40
    go_wp2_with (first | (at_lookup; refine wpList_lookup_own_ok_int _ rfl _ _ 107 rfl 30 30 .u64 keyedU under_words Try.underlying30 (zeroU _) mb _ D rfl HO.out _ _ rfl (Maps.keyOf_int_mk Try.underlying30 hwf) ?_; intro c hat hwc) | (go_at_call 54; refine HS.out.mono ?_; rintro e w' ⟨rfl, rfl⟩))
    go_ret
    exact ⟨rfl, rfl⟩
  | some c0 =>
    rw [hc] at hD1 HD2
    have hD1' : Maps.has D (Lit.int .u64 (8 * (k : Int))) = true := hD1
    clear hD1
    go_enter Try.func40, Try.ntmps40
    go_wp2_with (first | (at_lookup; refine wpList_lookup_own_ok_int _ rfl _ _ 107 rfl 30 30 .u64 keyedU under_words Try.underlying30 (zeroU _) mb _ D rfl HO.out _ _ rfl (Maps.keyOf_int_mk Try.underlying30 hwf) ?_; intro c hat hwc; have HAT := Lib.hid hat; clear hat) | (go_at_call 54; refine HS.out.mono ?_; rintro e w' ⟨rfl, rfl⟩))
    go_ret
    have h1 := HAT.out
    rw [HD2.out c0 rfl] at h1
    injection h1 with h1
    injection h1 with _ h1
    exact ⟨by rw [h1]; rfl, rfl⟩
end Go.Proofs.Ytngkhligjkcbmaa

namespace Go.Proofs.Ytngkhligjkcbmaa
open Go.RowKit
set_option linter.unusedVariables false

def OvS.put (S : OvS) (off v : Int) : OvS := { S with log := S.log ++ [(off, v)] }
def OvS.brk (S : OvS) : OvS := { S with broken := true }

theorem some_ne {a b : Nat} (h : a ≠ b) : some a ≠ some b := fun e => h (Option.some.inj e)
theorem step_append_sl {P : Program} {w : World} {ops : Array Oper} {o : Oper} {a : Act} {K : Act → World → Prop} {Q : Exit → Act → World → Prop} {E : Prop} (hgd : o.guard = none) (s x : Operand) (t : TypeId)
    (ho : o.op = .call { callee := .builtin .append, args := #[s, x], argTypes := #[t, t] }) (e : TypeId) (zv : Value) (size by_ : Nat) (hzs : zv.cells.size = size) (hsz : 0 < size) (ht : P.underlying t = some (.slice e)) (hinfo : (P.info? e).map (fun i => (i.zero, i.size, i.bytes)) = some (some zv, size, by_)) (hby : by_ ≤ 64)
    (A : Option Addr) (n c : Nat) (xs : List Value) (ad : Addr) (m d : Nat) (ys : List Value) (hse : a.eval s = .slice A n c) (hxe : a.eval x = .slice (some ad) m d) (hown : Sl e size w A n c xs) (hm : ys.length = m * size) (hm0 : 0 < m) (hr : ∀ j u, ys[j]? = some u → w.cell? (ad.add j) = some u) (hf : ∀ u ∈ ys, u.oneCell' = true)
    (hbound : n + m ≤ 1000000000)
    (h : ∀ A' c' w', Hid (Sl e size w' A' (n + m) c' (xs ++ ys)) → Hid (Ch (OwnB A) w w') → Hid (∀ b, OwnB A' b → OwnB A b ∨ b = w.heap.size) → Hid (c < n + m → A' = some ⟨w.heap.size, 0, none⟩) → K (a.put o.dst (.slice A' (n + m) c')) w') :
    if Region.wanted o (yielded ops a.tmps) = true then Oper.wp P o a w K Q else E := by
  have hw : Region.wanted o (yielded ops a.tmps) = true := by simp [Region.wanted, hgd]
  rw [if_pos hw]
  obtain ⟨A', c', w', hrun, h1, h2, h3, h4⟩ := run_append_sl (P := P) w t o.type e zv size by_ hzs hsz ht hinfo hby A n c xs hown ad m d ys hm hm0 hr hf hbound
  unfold Oper.wp
  simp [execOp, ho, resolve, invoke, builtin, hse, hxe, hrun, Result.andThen]
  exact h A' c' w' h1 h2 h3 h4

set_option maxRecDepth 100000 in
set_option maxHeartbeats 2000000 in
theorem ovStore_bad {F : Nat → Prop} {o T n : Nat} {xs : List Int} {S : OvS} (w : World) (h : OV F o (bT T) w S) (hB : BaseM T n xs w) (off v : Int) (hoff : 0 ≤ off ∧ off < 18446744073709551616) (hbad : off % 8 ≠ 0 ∨ (n : Int) * 64 ≤ off) :
    Calls Try.prog 24 #[.pointer (some ⟨o, 0, none⟩), .int .u64 off, .int .u64 v] w fun e w' => e = .returned (.tuple #[]) ∧ OV F o (bT T) w' S.brk ∧ Ch F w w' := by
  have H := Lib.hid h
  obtain ⟨h0, hl⟩ := h.base
  have HS := Lib.hid (hB.size w (Below.refl _ _))
  obtain ⟨hF, mb, la, lc, ma, mc, h2, f1, _⟩ := h
  have hf := h2.ov.frozen 5
  have hc5 : w.cell? ⟨o, 5, none⟩ = some (.bool S.broken) := h2.ov.cell_some rfl
  have HR : Hid (OV F o (bT T) (w.setCell ⟨o, 5, none⟩ (.bool true)) S.brk ∧ Ch F w (w.setCell ⟨o, 5, none⟩ (.bool true))) := by
    obtain ⟨hF, mb, la, lc, ma, mc, h2, f1, f2, f3, f4⟩ := H.out
    have hc : Ch (At o) w (w.setCell ⟨o, 5, none⟩ (.bool true)) := (Ch.refl _ _).set1 5 _
    refine ⟨⟨fun b hb => hF b (by simpa using hb), mb, la, lc, ma, mc, ?_, f1, f2, f3, f4⟩, hc.mono (fun b hb _ => by rw [show b = o from hb]; exact f1)⟩
    have hk : ∀ b, b ≠ o → (w.setCell ⟨o, 5, none⟩ (.bool true)).heap[b]? = w.heap[b]? := fun b hb => Below.heap_setCell w ⟨o, 5, none⟩ _ b hb
    exact ⟨h2.ov.set 5 _, h2.mp.keep (hk _ h2.om.symm), h2.lg.keep (fun b hb => hk b (h2.ol b hb).1), h2.mks.keep (fun b hb => hk b (h2.oa b hb).1), h2.om, h2.ol, h2.oa⟩
  unfold bT at h0
  obtain ⟨o1, o2⟩ := hoff
  clear h2 hB H f1 hF
  by_cases h8 : off % 8 = 0
  · have h8' : (off % 8 != 0) = false := by simpa using h8
    have hge : (n : Int) * 64 ≤ off := by rcases hbad with h | h; exact absurd h8 h; exact h
    clear hbad h8
    go_enter Try.func24, Try.ntmps24
    go_wp2_with (first | (go_at_call 155; refine HS.out.mono ?_; rintro e w' ⟨rfl, rfl⟩))
    exact bodyPost_ret (v := .tuple #[]) (by simp [results, Try.results24, go_sem]) rfl ⟨rfl, HR.out⟩
  · have h8' : (off % 8 != 0) = true := by simpa using h8
    clear hbad h8
    go_enter Try.func24, Try.ntmps24
    go_wp2_with (first | (go_at_call 155; refine HS.out.mono ?_; rintro e w' ⟨rfl, rfl⟩))
    exact bodyPost_ret (v := .tuple #[]) (by simp [results, Try.results24, go_sem]) rfl ⟨rfl, HR.out⟩

set_option maxRecDepth 100000 in
set_option maxHeartbeats 2000000 in
theorem ovStore {F : Nat → Prop} {o T n : Nat} {xs : List Int} {S : OvS} (w : World) (h : OV F o (bT T) w S) (hB : BaseM T n xs w) (k : Nat) (v : Int) (hk : k < 8 * n) (hn : n ≤ 4096) (hv : 0 ≤ v ∧ v < 18446744073709551616) (hlog : S.log.length < 1000000) :
    Calls Try.prog 24 #[.pointer (some ⟨o, 0, none⟩), .int .u64 (8 * (k : Int)), .int .u64 v] w fun e w' => e = .returned (.tuple #[]) ∧ OV F o (bT T) w' (S.put (8 * (k : Int)) v) ∧ Ch F w w' := by
  have H := Lib.hid h
  obtain ⟨h0, hl⟩ := h.base
  have HS := Lib.hid (hB.size w (Below.refl _ _))
  obtain ⟨hF, mb, la, lc, ma, mc, h2, f1, f2, f3, f4⟩ := h
  have h1 : w.cell? ⟨o, 1, none⟩ = some (.map (some mb)) := h2.ov.cell_some rfl
  have c2 : w.cell? ⟨o, 2, none⟩ = some (.slice la S.log.length lc) := h2.ov.cell_some rfl
  obtain ⟨D, hown, hD⟩ := h2.mp
  have HO := Lib.hid hown
  have HD := Lib.hid hD
  have H2 := Lib.hid h2
  have HF := Lib.hid (And.intro hF (And.intro f1 (And.intro f2 (And.intro f3 f4))))
  have hwf : (Lit.int .u64 (8 * (k : Int))).wf = true := wf_u64_mk (by omega)
  have hwv : (Lit.int .u64 v).wf = true := wf_u64_mk hv
  obtain ⟨m, hm⟩ : ∃ m, S.log.length = m := ⟨_, rfl⟩
  have HM := Lib.hid hm
  rw [hm] at HO c2 hlog
  have hfl : m < maxLen := by unfold maxLen; omega
  have h8' : ((8 * (k : Int)) % 8 != 0) = false := by simp
  have hge : ¬ (n : Int) * 64 ≤ 8 * (k : Int) := by omega
  unfold bT at h0
  clear h2 hB hF f1 f2 f3 f4 hown hD hm hv
  go_enter Try.func24, Try.ntmps24
  go_wp2_with (first
    | (go_at_call 155; refine HS.out.mono ?_; rintro e w' ⟨rfl, rfl⟩)
    | (at_mapUpdate; go_loud (refine wpList_mapUpdate_own _ rfl _ _ _ 107 rfl 30 30 keyedU under_words _ mb m D rfl HO.out hfl _ _ (.int .u64 (8 * (k : Int))) rfl rfl (Maps.keyOf_int_mk Try.underlying30 hwf) _ [] (plainElem_int Try.underlying30 hwv) ?_; intro w1 hown1 hg1; have HO1 := Lib.hid hown1; have HG1 := Lib.hid hg1; have K2 : w1.cell? ⟨o, 2, none⟩ = some (.slice la m lc) := (H2.out.ov.keep (hg1.block o hl (some_ne H2.out.om))).cell_some (by rw [← HM.out]; rfl); have KL : o < w1.heap.size := Nat.lt_of_lt_of_le hl hg1.size; clear hown1 hg1))
    | (at_builtin; go_loud (refine wpList_append_sl rfl (.tmp 40) (.tmp 44) 28 rfl 34 (.agg #[.int .u64 0, .int .u64 0]) 2 16 rfl (by omega) Try.underlying28 info_write (by omega) la m lc (wcells S.log) ⟨w1.heap.size, 0, none⟩ 1 1 [.int .u64 (8 * (k : Int)), .int .u64 v] rfl rfl ?hsl rfl (by omega) (cells_two w1 34 _ _) (by simp; exact ⟨rfl, rfl⟩) (by omega) ?_; (case hsl => (have e1 := H2.out.lg; rw [HM.out] at e1; exact (e1.keep (w' := w1) (fun b hb => HG1.out.block b (e1.lt hb) (some_ne (H2.out.ol b hb).2))).keep (fun b hb => Below.heap_alloc _ _ b ((e1.keep (w' := w1) (fun b hb => HG1.out.block b (e1.lt hb) (some_ne (H2.out.ol b hb).2))).lt hb)))); intro A2 c2' w2 HO2 HC2 HW2 HN2; have K3 : CB w2 o 110 #[bT T, .map (some mb), .slice la m lc, .slice ma S.marks.length mc, .int .i64 S.next, .bool S.broken] := (by have e1 := H2.out.ov.keep (w' := w1) (HG1.out.block o hl (some_ne H2.out.om)); rw [HM.out] at e1; exact (e1.alloc _).ch HC2.out (fun h => (H2.out.ol o h).1 rfl)); have K4 := K3.frozen 2; have K6 : w2.cell? ⟨o, 2, none⟩ = some (.slice la m lc) := K3.cell_some rfl; have K5 := K3.lt; have HK3 := Lib.hid K3; clear K3)))
  go_end0
  obtain ⟨hF, f1, f2, f3, f4⟩ := HF.out
  have hlt : w.heap.size ≤ w1.heap.size := HG1.out.size
  have hA2 : ∀ b, OwnB A2 b → OwnB la b ∨ w.heap.size ≤ b := fun b hb => (HW2.out b hb).imp id (fun he => by rw [he]; simp; omega)
  have hA3 : ∀ b, OwnB A2 b → b ≠ o ∧ b ≠ mb := by
    intro b hb
    rcases hA2 b hb with h | h
    · exact H2.out.ol b h
    · have := H2.out.mp.lt
      exact ⟨by omega, by omega⟩
  have hw2 : ∀ b, b < w1.heap.size → ¬ OwnB la b → w2.heap[b]? = w1.heap[b]? := fun b hb hno => (HC2.out.block b (by simp; omega) hno).trans (Below.heap_alloc _ _ b hb)
  have hw3 : ∀ b, b ≠ o → (w2.setCell ⟨o, 2, none⟩ (.slice A2 (m + 1) c2')).heap[b]? = w2.heap[b]? := fun b hb => Below.heap_setCell w2 ⟨o, 2, none⟩ _ b hb
  have hl1 : (S.put (8 * (k : Int)) v).log.length = m + 1 := by simp [OvS.put, HM.out]
  refine ⟨rfl, ⟨fun b hb => hF b ?_, mb, A2, c2', ma, mc, ?_, f1, f2, ?_, f4⟩, ?_⟩
  · have := HC2.out.size
    simp at hb this
    omega
  · refine ⟨?_, ?_, ?_, ?_, H2.out.om, hA3, fun b hb => ?_⟩
    · rw [hl1]
      exact HK3.out.set 2 (.slice A2 (m + 1) c2')
    · rw [hl1]
      have hN := UMap.put (w' := w1) (8 * (k : Int)) v D HO.out.isMap HD.out HO1.out
      have e1 : (fun x => if 8 * (k : Int) = x then some v else lastV S.log x) = lastV (S.put (8 * (k : Int)) v).log := by
        funext x
        simp only [OvS.put, lastV_snoc]
      rw [e1] at hN
      exact (hN.keep (hw2 mb hN.lt (fun h => (H2.out.ol mb h).2 rfl))).keep (hw3 mb H2.out.om.symm)
    · rw [hl1]
      have e1 : wcells (S.put (8 * (k : Int)) v).log = wcells S.log ++ [.int .u64 (8 * (k : Int)), .int .u64 v] := by simp [OvS.put, wcells]
      rw [e1]
      exact HO2.out.keep (fun b hb => hw3 b (hA3 b hb).1)
    · exact H2.out.mks.keep (fun b hb => (hw3 b (H2.out.oa b hb).1).trans ((hw2 b (Nat.lt_of_lt_of_le (H2.out.mks.lt hb) hlt) (H2.out.oa b hb).2.2).trans (HG1.out.block b (H2.out.mks.lt hb) (some_ne (H2.out.oa b hb).2.1))))
    · obtain ⟨a1, a2, a3⟩ := H2.out.oa b hb
      refine ⟨a1, a2, fun h => ?_⟩
      rcases hA2 b h with h | h
      · exact a3 h
      · have := H2.out.mks.lt hb
        omega
  · intro b hb
    rcases hA2 b hb with h | h
    · exact f3 b h
    · exact hF b h
  · have c1 : Ch F w w1 := ⟨HG1.out.os, HG1.out.tape, HG1.out.output, HG1.out.size, fun b hb hS => HG1.out.block b hb (fun h => hS (by cases h; exact f2))⟩
    exact ((c1.alloc _).trans HC2.out (fun b h hb => f3 b h)).setCell (a := ⟨o, 2, none⟩) (.inl f1) _
end Go.Proofs.Ytngkhligjkcbmaa

namespace Go.Proofs.Ytngkhligjkcbmaa
open Go.RowKit
set_option linter.unusedVariables false

/-- The mark of the present state, if there is one. -/
def OvS.hit (S : OvS) : Option Int := match S.marks.getLast? with
  | some p => if p.2 = S.log.length then some p.1 else none
  | none => none
def OvS.mark (S : OvS) : OvS := if S.hit.isSome then S else { S with marks := S.marks ++ [(S.next, S.log.length)], next := wrap64 (S.next + 1) }
def OvS.markN (S : OvS) : Int := S.hit.getD S.next

theorem Sl.mark {w : World} {A : Option Addr} {m c : Nat} {ms : List (Int × Nat)} (h : Sl 116 2 w A m c (mcells ms)) {k : Nat} (hk : k < ms.length) :
    ∃ g off, A = some ⟨g, off, none⟩ ∧ g < w.heap.size ∧ w.cell? ⟨g, off + k * 2, none⟩ = some (.int .i64 ms[k].1) ∧ w.cell? ⟨g, off + k * 2 + 1, none⟩ = some (.int .i64 (ms[k].2 : Int)) := by
  obtain ⟨e1, e2⟩ := mcells_get ms k hk
  obtain ⟨g, off, hA, hl, _⟩ := h.at_ (j := k * 2) (by rw [length_mcells]; omega)
  have c1 := h.cells _ hA _ _ e1
  have c2 := h.cells _ hA _ _ e2
  have h1 : ∀ j, (⟨g, off, none⟩ : Addr).add j = ⟨g, off + j, none⟩ := by intro j; unfold Addr.add; split <;> simp_all
  rw [h1] at c1 c2
  exact ⟨g, off, hA, hl, c1, c2⟩
theorem info_moment : (Try.prog.info? 116).map (fun i => (i.zero, i.size, i.bytes)) = some (some (.agg #[.int .i64 0, .int .i64 0]), 2, 16) := by kernel_rfl

theorem mark_end {F : Nat → Prop} {o mb lc mc q c2' : Nat} {la ma A2 : Option Addr} {nx : Int} {B : Value} {w X w2 : World} {S : OvS} (h2 : OvD w o B mb la lc ma mc S) (hF : ∀ b, w.heap.size ≤ b → F b) (f1 : F o) (f2 : F mb) (f3 : ∀ b, OwnB la b → F b) (f4 : ∀ b, OwnB ma b → F b)
    (hb : Below w.heap.size w X) (hO2 : Sl 116 2 w2 A2 (q + 1) c2' (mcells S.marks ++ [.int .i64 nx, .int .i64 (S.log.length : Int)])) (hC2 : Ch (OwnB ma) X w2) (hW2 : ∀ b, OwnB A2 b → OwnB ma b ∨ b = X.heap.size) (hq : S.marks.length = q) (v : Int) :
    OV F o B ((w2.setCell ⟨o, 3, none⟩ (.slice A2 (q + 1) c2')).setCell ⟨o, 4, none⟩ (.int .i64 v)) { S with marks := S.marks ++ [(nx, S.log.length)], next := v } ∧
      Ch F w ((w2.setCell ⟨o, 3, none⟩ (.slice A2 (q + 1) c2')).setCell ⟨o, 4, none⟩ (.int .i64 v)) := by
  have hA2 : ∀ b, OwnB A2 b → OwnB ma b ∨ w.heap.size ≤ b := fun b hb' => (hW2 b hb').imp id (fun he => by have := hb.size; omega)
  have hA3 : ∀ b, OwnB A2 b → b ≠ o ∧ b ≠ mb ∧ ¬ OwnB la b := by
    intro b hb'
    rcases hA2 b hb' with h | h
    · exact h2.oa b h
    · have := h2.mp.lt
      have := h2.ov.lt
      exact ⟨by omega, by omega, fun h' => by have := h2.lg.lt h'; omega⟩
  have hw2 : ∀ b, b < w.heap.size → ¬ OwnB ma b → w2.heap[b]? = w.heap[b]? := fun b hb' hno => (hC2.block b (by have := hb.size; omega) hno).trans (hb.block b hb')
  have hw3 : ∀ b, b ≠ o → ((w2.setCell ⟨o, 3, none⟩ (.slice A2 (q + 1) c2')).setCell ⟨o, 4, none⟩ (.int .i64 v)).heap[b]? = w2.heap[b]? := fun b hb' => (Below.heap_setCell _ ⟨o, 4, none⟩ _ b hb').trans (Below.heap_setCell w2 ⟨o, 3, none⟩ _ b hb')
  have hkk : ∀ b, b < w.heap.size → ¬ OwnB ma b → b ≠ o → ((w2.setCell ⟨o, 3, none⟩ (.slice A2 (q + 1) c2')).setCell ⟨o, 4, none⟩ (.int .i64 v)).heap[b]? = w.heap[b]? := fun b h1 h3 h4 => (hw3 b h4).trans (hw2 b h1 h3)
  refine ⟨⟨fun b hb' => hF b ?_, mb, la, lc, A2, c2', ?_, f1, f2, f3, ?_⟩, ?_⟩
  · have := hC2.size
    have := hb.size
    simp at hb'
    omega
  · have hl : (S.marks ++ [(nx, S.log.length)]).length = q + 1 := by simp [hq]
    refine ⟨?_, ?_, ?_, ?_, h2.om, h2.ol, hA3⟩
    · show CB _ _ _ #[B, .map (some mb), .slice la S.log.length lc, .slice A2 (S.marks ++ [(nx, S.log.length)]).length c2', .int .i64 v, .bool S.broken]
      rw [hl]
      exact ((h2.ov.keep (hw2 o h2.ov.lt (fun h => (h2.oa o h).1 rfl))).set 3 (.slice A2 (q + 1) c2')).set 4 (.int .i64 v)
    · exact h2.mp.keep (hkk mb h2.mp.lt (fun h => (h2.oa mb h).2.1 rfl) h2.om.symm)
    · exact h2.lg.keep (fun b hb' => hkk b (h2.lg.lt hb') (fun h => (h2.oa b h).2.2 hb') (h2.ol b hb').1)
    · show Sl 116 2 _ A2 (S.marks ++ [(nx, S.log.length)]).length c2' (mcells (S.marks ++ [(nx, S.log.length)]))
      rw [hl, mcells_snoc]
      exact hO2.keep (fun b hb' => hw3 b (hA3 b hb').1)
  · intro b hb'
    rcases hA2 b hb' with h | h
    · exact f4 b h
    · exact hF b h
  · exact (((Ch.of_below hb).trans hC2 (fun b h _ => f4 b h)).setCell (a := ⟨o, 3, none⟩) (.inl f1) _).setCell (a := ⟨o, 4, none⟩) (.inl f1) _

set_option maxRecDepth 100000 in
set_option maxHeartbeats 4000000 in
theorem ovMark {F : Nat → Prop} {o T : Nat} {S : OvS} (w : World) (h : OV F o (bT T) w S) (hlog : S.log.length < 1000000) (hmk : S.marks.length < 1000000) :
    Calls Try.prog 26 #[.pointer (some ⟨o, 0, none⟩)] w fun e w' => e = .returned (.int .i64 S.markN) ∧ OV F o (bT T) w' S.mark ∧ Ch F w w' := by
  have H := Lib.hid h
  obtain ⟨h0, hl⟩ := h.base
  obtain ⟨hF, mb, la, lc, ma, mc, h2, f1, f2, f3, f4⟩ := h
  have c2 : w.cell? ⟨o, 2, none⟩ = some (.slice la S.log.length lc) := h2.ov.cell_some rfl
  have c3 : w.cell? ⟨o, 3, none⟩ = some (.slice ma S.marks.length mc) := h2.ov.cell_some rfl
  have c4 : w.cell? ⟨o, 4, none⟩ = some (.int .i64 S.next) := h2.ov.cell_some rfl
  have fz3 := h2.ov.frozen 3
  have fz4 := h2.ov.frozen 4
  have H2 := Lib.hid h2
  have HF := Lib.hid (And.intro hF (And.intro f1 (And.intro f2 (And.intro f3 f4))))
  obtain ⟨m, hm⟩ : ∃ m, S.log.length = m := ⟨_, rfl⟩
  obtain ⟨q, hq⟩ : ∃ q, S.marks.length = q := ⟨_, rfl⟩
  obtain ⟨nx, hnx⟩ : ∃ nx, S.next = nx := ⟨_, rfl⟩
  have HM := Lib.hid hm
  have HQ := Lib.hid hq
  have HX := Lib.hid hnx
  unfold bT at h0
  have hcase : (∃ num : Int, S.hit = some num ∧ ∃ g off, ma = some ⟨g, off, none⟩ ∧ 0 < q ∧ g < w.heap.size ∧ w.cell? ⟨g, off + (q - 1) * 2, none⟩ = some (.int .i64 num) ∧ w.cell? ⟨g, off + (q - 1) * 2 + 1, none⟩ = some (.int .i64 (m : Int))) ∨
      (S.hit = none ∧ (q = 0 ∨ ∃ (l : Nat) (g off : Nat), l ≠ m ∧ ma = some ⟨g, off, none⟩ ∧ 0 < q ∧ g < w.heap.size ∧ w.cell? ⟨g, off + (q - 1) * 2 + 1, none⟩ = some (.int .i64 (l : Int)))) := by
    by_cases hq0 : q = 0
    · refine .inr ⟨?_, .inl hq0⟩
      have : S.marks = [] := List.eq_nil_of_length_eq_zero (by omega)
      simp [OvS.hit, this]
    · have hlt : q - 1 < S.marks.length := by omega
      obtain ⟨g, off, hA, hg, k1, k2⟩ := h2.mks.mark hlt
      have hlast : S.marks.getLast? = some S.marks[q - 1] := by
        rw [List.getLast?_eq_getElem?, hq, List.getElem?_eq_getElem hlt]
      by_cases he : S.marks[q - 1].2 = m
      · refine .inl ⟨S.marks[q - 1].1, ?_, g, off, hA, by omega, hg, k1, by rw [k2, he]⟩
        unfold OvS.hit
        rw [hlast]
        exact if_pos (he.trans hm.symm)
      · refine .inr ⟨?_, .inr ⟨S.marks[q - 1].2, g, off, he, hA, by omega, hg, k2⟩⟩
        unfold OvS.hit
        rw [hlast]
        exact if_neg (fun h => he (h.trans hm))
  rw [hm] at c2 hlog
  rw [hq] at c3 hmk
  rw [hnx] at c4
  clear h2 hF f1 f2 f3 f4 hm hq hnx
  rcases hcase with ⟨num, hh, g, off, rfl, hq0, hg, k1, k2⟩ | ⟨hh, hr⟩
  · have HR : Hid (S.markN = num ∧ S.mark = S) := by show _ ∧ _; simp [OvS.markN, OvS.mark, hh]
    obtain ⟨p, rfl⟩ : ∃ p, q = p + 1 := ⟨q - 1, by omega⟩
    rw [show p + 1 - 1 = p by omega] at k1 k2
    have hpi : ((p + 1 : Nat) : Int) - 1 = (p : Int) := by omega
    have hq1 : (0 : Int) < (p : Int) + 1 := by omega
    clear hh hq0
    go_enter Try.func26, Try.ntmps26
    go_wp2
    go_quiet (fail)
    go_wp2
    go_ret
    rw [HR.out.1, HR.out.2]
    exact ⟨rfl, H.out.drewN _, (Ch.refl _ _).drewN _⟩
  · have HR : Hid (S.markN = nx ∧ S.mark = { S with marks := S.marks ++ [(nx, m)], next := wrap64 (nx + 1) }) := by show _ ∧ _; simp [OvS.markN, OvS.mark, hh, HX.out, HM.out]
    rcases hr with rfl | ⟨l, g, off, hne, rfl, hq0, hg, k2⟩
    · have hq1 : ¬ (0 : Int) > 0 := by omega
      clear hh
      go_enter Try.func26, Try.ntmps26
      go_wp2
      go_quiet (fail)
      obtain ⟨W, hW⟩ : ∃ W, w.drewN nq = W := ⟨_, rfl⟩
      have q0 : W.cell? ⟨o, 0, none⟩ = some (.iface 49 (.pointer (some ⟨T, 0, none⟩))) := by rw [← hW]; exact h0
      have q2 : W.cell? ⟨o, 2, none⟩ = some (.slice la m lc) := by rw [← hW]; exact c2
      have q3 : W.cell? ⟨o, 3, none⟩ = some (.slice ma 0 mc) := by rw [← hW]; exact c3
      have q4 : W.cell? ⟨o, 4, none⟩ = some (.int .i64 nx) := by rw [← hW]; exact c4
      have q5 : o < W.heap.size := by rw [← hW]; exact hl
      have q6 : ¬ o = W.heap.size := by omega
      have q7 : W.frozen? ⟨o, 3, none⟩ = false := by rw [← hW]; exact fz3
      have q8 : W.frozen? ⟨o, 4, none⟩ = false := by rw [← hW]; exact fz4
      have HW := Lib.hid hW
      rw [hW]
      clear hW h0 c2 c3 c4 fz3 fz4
      go_wp2
      go_region
      go_wp2
      obtain ⟨W1, hW1⟩ : ∃ W1, (W.alloc (.cells #[.int .i64 nx, .int .i64 (m : Int)] 116)).drew = W1 := ⟨_, rfl⟩
      have hb1 : Below W.heap.size W W1 := by rw [← hW1]; exact bl_drew (bl_alloc (Below.refl _ _) _)
      have hs1 : W1.heap.size = W.heap.size + 1 := by rw [← hW1]; simp
      have hcb : CB W1 W.heap.size 116 #[.int .i64 nx, .int .i64 (m : Int)] := by rw [← hW1]; exact CB.new W _ _
      obtain ⟨tm, htm⟩ : ∃ tm, W.heap.size = tm := ⟨_, rfl⟩
      have r3 : W1.cell? ⟨o, 3, none⟩ = some (.slice ma 0 mc) := (hb1.cell (p := ⟨o, 3, none⟩) q5).trans q3
      have r4 : W1.cell? ⟨o, 4, none⟩ = some (.int .i64 nx) := (hb1.cell (p := ⟨o, 4, none⟩) q5).trans q4
      have r5 : o < W1.heap.size := by omega
      have r7 : W1.frozen? ⟨o, 3, none⟩ = false := (hb1.frozen (p := ⟨o, 3, none⟩) q5).trans q7
      have r8 : W1.frozen? ⟨o, 4, none⟩ = false := (hb1.frozen (p := ⟨o, 4, none⟩) q5).trans q8
      have t0 : W1.cell? ⟨tm, 0, none⟩ = some (.int .i64 nx) := by rw [← htm]; exact hcb.cell_some rfl
      have t1 : W1.cell? ⟨tm, 1, none⟩ = some (.int .i64 (m : Int)) := by rw [← htm]; exact hcb.cell_some rfl
      have t2 : tm < W1.heap.size := by omega
      have hsl : Sl 116 2 (W1.drew.alloc (.cells #[.int .i64 nx, .int .i64 (m : Int)] 116)) ma 0 mc (mcells S.marks) := by
        have e1 := H2.out.mks
        rw [HQ.out] at e1
        have e2 := e1.keep (w' := W1) (fun b hb => by
          have e3 : W.heap[b]? = w.heap[b]? := by rw [← HW.out]; rfl
          have e4 := e1.lt hb
          exact (hb1.block b (by rw [← HW.out]; exact e4)).trans e3)
        exact e2.keep (fun b hb => Below.heap_alloc _ _ b (e2.lt hb))
      have hov : CB W1 o 110 #[bT T, .map (some mb), .slice la m lc, .slice ma 0 mc, .int .i64 nx, .bool S.broken] := by
        have e1 := H2.out.ov
        rw [HQ.out, HM.out, HX.out] at e1
        exact e1.keep ((hb1.block o q5).trans (by rw [← HW.out]; rfl))
      have HOV := Lib.hid hov
      have HCB := Lib.hid hcb
      have HSL := Lib.hid hsl
      have HB1 := Lib.hid hb1
      have HS1 := Lib.hid hs1
      have HTM := Lib.hid htm
      rw [hW1, htm]
      clear hW1 hsl hb1 hs1 hcb htm hov
      go_region_law (first | (refine step_append_sl rfl (.tmp 61) (.tmp 63) 108 rfl 116 (.agg #[.int .i64 0, .int .i64 0]) 2 16 rfl (by omega) Try.underlying108 info_moment (by omega) ma 0 mc (mcells S.marks) ⟨W1.heap.size, 0, none⟩ 1 1 [.int .i64 nx, .int .i64 (m : Int)] (by go_simp) (by go_simp) HSL.out rfl (by omega) (cells_two W1.drew 116 _ _) (by simp; exact ⟨rfl, rfl⟩) (by omega) ?_; intro A2 c2' w2 HO2 HC2 HW2 HN2; have HK3 : Hid (CB w2 o 110 #[bT T, .map (some mb), .slice la m lc, .slice ma 0 mc, .int .i64 nx, .bool S.broken]) := ((HOV.out.drew.alloc _).ch HC2.out (fun h => (H2.out.oa o h).1 rfl)); have K3 : w2.cell? ⟨o, 3, none⟩ = some (.slice ma 0 mc) := HK3.out.cell_some rfl; have K4 : w2.cell? ⟨o, 4, none⟩ = some (.int .i64 nx) := HK3.out.cell_some rfl; have K5 := HK3.out.frozen 3; have K6 := HK3.out.frozen 4; have K7 := HK3.out.lt; have HT : Hid (CB w2 W.heap.size 116 #[.int .i64 nx, .int .i64 (m : Int)]) := ((HCB.out.drew.alloc _).ch HC2.out (fun h => by have e1 := H2.out.mks.lt h; rw [← HW.out] at e1; exact Nat.lt_irrefl _ e1)); have K8 : w2.cell? ⟨tm, 0, none⟩ = some (.int .i64 nx) := (by rw [← HTM.out]; exact HT.out.cell_some rfl); have K9 : tm < w2.heap.size := (by rw [← HTM.out]; exact HT.out.lt)))
      all_goals
        go_wp2
        go_ret
        rw [HR.out.1, HR.out.2]
        obtain ⟨hF, f1, f2, f3, f4⟩ := HF.out
        have hbX : Below w.heap.size w (W1.alloc (.cells #[.int .i64 nx, .int .i64 (m : Int)] 116)).drew := by
          have e1 : Below w.heap.size w W1 := (below_drewN (Below.refl _ _) nq).trans (by rw [HW.out]; exact HB1.out.mono (by rw [← HW.out]; exact Nat.le_refl _))
          exact bl_drew (bl_alloc e1 _)
        have hm := HM.out
        subst hm
        refine ⟨rfl, mark_end H2.out hF f1 f2 f3 f4 hbX HO2.out HC2.out HW2.out HQ.out _⟩
    · obtain ⟨p, rfl⟩ : ∃ p, q = p + 1 := ⟨q - 1, by omega⟩
      rw [show p + 1 - 1 = p by omega] at k2
      have hpi : ((p + 1 : Nat) : Int) - 1 = (p : Int) := by omega
      have hq1 : (0 : Int) < (p : Int) + 1 := by omega
      have hlm : ((l : Int) == (m : Int)) = false := by simp; omega
      clear hh hq0
      go_enter Try.func26, Try.ntmps26
      go_wp2
      go_quiet (fail)
      obtain ⟨W, hW⟩ : ∃ W, w.drewN nq = W := ⟨_, rfl⟩
      have q0 : W.cell? ⟨o, 0, none⟩ = some (.iface 49 (.pointer (some ⟨T, 0, none⟩))) := by rw [← hW]; exact h0
      have q2 : W.cell? ⟨o, 2, none⟩ = some (.slice la m lc) := by rw [← hW]; exact c2
      have q3 : W.cell? ⟨o, 3, none⟩ = some (.slice (some ⟨g, off, none⟩) (p + 1) mc) := by rw [← hW]; exact c3
      have q4 : W.cell? ⟨o, 4, none⟩ = some (.int .i64 nx) := by rw [← hW]; exact c4
      have q5 : o < W.heap.size := by rw [← hW]; exact hl
      have q6 : ¬ o = W.heap.size := by omega
      have q7 : W.frozen? ⟨o, 3, none⟩ = false := by rw [← hW]; exact fz3
      have q8 : W.frozen? ⟨o, 4, none⟩ = false := by rw [← hW]; exact fz4
      have HW := Lib.hid hW
      rw [hW]
      clear hW h0 c2 c3 c4 fz3 fz4
      go_wp2
      go_region
      go_wp2
      obtain ⟨W1, hW1⟩ : ∃ W1, (W.alloc (.cells #[.int .i64 nx, .int .i64 (m : Int)] 116)).drew = W1 := ⟨_, rfl⟩
      have hb1 : Below W.heap.size W W1 := by rw [← hW1]; exact bl_drew (bl_alloc (Below.refl _ _) _)
      have hs1 : W1.heap.size = W.heap.size + 1 := by rw [← hW1]; simp
      have hcb : CB W1 W.heap.size 116 #[.int .i64 nx, .int .i64 (m : Int)] := by rw [← hW1]; exact CB.new W _ _
      obtain ⟨tm, htm⟩ : ∃ tm, W.heap.size = tm := ⟨_, rfl⟩
      have r3 : W1.cell? ⟨o, 3, none⟩ = some (.slice (some ⟨g, off, none⟩) (p + 1) mc) := (hb1.cell (p := ⟨o, 3, none⟩) q5).trans q3
      have r4 : W1.cell? ⟨o, 4, none⟩ = some (.int .i64 nx) := (hb1.cell (p := ⟨o, 4, none⟩) q5).trans q4
      have r5 : o < W1.heap.size := by omega
      have r7 : W1.frozen? ⟨o, 3, none⟩ = false := (hb1.frozen (p := ⟨o, 3, none⟩) q5).trans q7
      have r8 : W1.frozen? ⟨o, 4, none⟩ = false := (hb1.frozen (p := ⟨o, 4, none⟩) q5).trans q8
      have t0 : W1.cell? ⟨tm, 0, none⟩ = some (.int .i64 nx) := by rw [← htm]; exact hcb.cell_some rfl
      have t1 : W1.cell? ⟨tm, 1, none⟩ = some (.int .i64 (m : Int)) := by rw [← htm]; exact hcb.cell_some rfl
      have t2 : tm < W1.heap.size := by omega
      have hsl : Sl 116 2 (W1.drew.alloc (.cells #[.int .i64 nx, .int .i64 (m : Int)] 116)) (some ⟨g, off, none⟩) (p + 1) mc (mcells S.marks) := by
        have e1 := H2.out.mks
        rw [HQ.out] at e1
        have e2 := e1.keep (w' := W1) (fun b hb => by
          have e3 : W.heap[b]? = w.heap[b]? := by rw [← HW.out]; rfl
          have e4 := e1.lt hb
          exact (hb1.block b (by rw [← HW.out]; exact e4)).trans e3)
        exact e2.keep (fun b hb => Below.heap_alloc _ _ b (e2.lt hb))
      have hov : CB W1 o 110 #[bT T, .map (some mb), .slice la m lc, .slice (some ⟨g, off, none⟩) (p + 1) mc, .int .i64 nx, .bool S.broken] := by
        have e1 := H2.out.ov
        rw [HQ.out, HM.out, HX.out] at e1
        exact e1.keep ((hb1.block o q5).trans (by rw [← HW.out]; rfl))
      have HOV := Lib.hid hov
      have HCB := Lib.hid hcb
      have HSL := Lib.hid hsl
      have HB1 := Lib.hid hb1
      have HS1 := Lib.hid hs1
      have HTM := Lib.hid htm
      rw [hW1, htm]
      clear hW1 hsl hb1 hs1 hcb htm hov
      go_region_law (first | (refine step_append_sl rfl (.tmp 61) (.tmp 63) 108 rfl 116 (.agg #[.int .i64 0, .int .i64 0]) 2 16 rfl (by omega) Try.underlying108 info_moment (by omega) (some ⟨g, off, none⟩) (p + 1) mc (mcells S.marks) ⟨W1.heap.size, 0, none⟩ 1 1 [.int .i64 nx, .int .i64 (m : Int)] (by go_simp) (by go_simp) HSL.out rfl (by omega) (cells_two W1.drew 116 _ _) (by simp; exact ⟨rfl, rfl⟩) (by omega) ?_; intro A2 c2' w2 HO2 HC2 HW2 HN2; have HK3 : Hid (CB w2 o 110 #[bT T, .map (some mb), .slice la m lc, .slice (some ⟨g, off, none⟩) (p + 1) mc, .int .i64 nx, .bool S.broken]) := ((HOV.out.drew.alloc _).ch HC2.out (fun h => (H2.out.oa o h).1 rfl)); have K3 : w2.cell? ⟨o, 3, none⟩ = some (.slice (some ⟨g, off, none⟩) (p + 1) mc) := HK3.out.cell_some rfl; have K4 : w2.cell? ⟨o, 4, none⟩ = some (.int .i64 nx) := HK3.out.cell_some rfl; have K5 := HK3.out.frozen 3; have K6 := HK3.out.frozen 4; have K7 := HK3.out.lt; have HT : Hid (CB w2 W.heap.size 116 #[.int .i64 nx, .int .i64 (m : Int)]) := ((HCB.out.drew.alloc _).ch HC2.out (fun h => by have e1 := H2.out.mks.lt h; rw [← HW.out] at e1; exact Nat.lt_irrefl _ e1)); have K8 : w2.cell? ⟨tm, 0, none⟩ = some (.int .i64 nx) := (by rw [← HTM.out]; exact HT.out.cell_some rfl); have K9 : tm < w2.heap.size := (by rw [← HTM.out]; exact HT.out.lt)))
      all_goals
        go_wp2
        go_ret
        rw [HR.out.1, HR.out.2]
        obtain ⟨hF, f1, f2, f3, f4⟩ := HF.out
        have hbX : Below w.heap.size w (W1.alloc (.cells #[.int .i64 nx, .int .i64 (m : Int)] 116)).drew := by
          have e1 : Below w.heap.size w W1 := (below_drewN (Below.refl _ _) nq).trans (by rw [HW.out]; exact HB1.out.mono (by rw [← HW.out]; exact Nat.le_refl _))
          exact bl_drew (bl_alloc e1 _)
        have hm := HM.out
        subst hm
        refine ⟨rfl, mark_end H2.out hF f1 f2 f3 f4 hbX HO2.out HC2.out HW2.out HQ.out _⟩
end Go.Proofs.Ytngkhligjkcbmaa

namespace Go.Proofs.Ytngkhligjkcbmaa
open Go.RowKit
set_option linter.unusedVariables false

theorem isNaNI_any (w : World) (x : Int) : Calls Try.prog 98 #[.int .i64 x] w fun e w' => e = .returned (.bool false) ∧ w = w' := by
  go_enter Try.func98, Try.ntmps98
  go_wp2
  go_ret
  exact ⟨by simp, rfl⟩
set_option maxHeartbeats 400000 in
theorem cmpI_any (w : World) (x y : Int) : Calls Try.prog 68 #[.int .i64 x, .int .i64 y] w fun e w' => e = .returned (.int .i64 (Lib.compareInt x y)) ∧ w = w' := by
  by_cases h1 : x < y
  · have e : Lib.compareInt x y = -1 := by simp [Lib.compareInt, h1]
    have HE := Lib.hid e
    clear e
    go_enter Try.func68, Try.ntmps68
    go_wp2_with (go_at_call 98; refine (isNaNI_any _ _).mono ?_; rintro e w' ⟨rfl, rfl⟩)
    go_ret
    rw [HE.out]
    exact ⟨rfl, rfl⟩
  · by_cases h2 : y < x
    · have e : Lib.compareInt x y = 1 := by simp [Lib.compareInt, h1, h2]
      have HE := Lib.hid e
      clear e
      go_enter Try.func68, Try.ntmps68
      go_wp2_with (go_at_call 98; refine (isNaNI_any _ _).mono ?_; rintro e w' ⟨rfl, rfl⟩)
      go_ret
      rw [HE.out]
      exact ⟨rfl, rfl⟩
    · have e : Lib.compareInt x y = 0 := by simp [Lib.compareInt, h1, h2]
      have HE := Lib.hid e
      clear e
      go_enter Try.func68, Try.ntmps68
      go_wp2_with (go_at_call 98; refine (isNaNI_any _ _).mono ?_; rintro e w' ⟨rfl, rfl⟩)
      go_ret
      rw [HE.out]
      exact ⟨rfl, rfl⟩
theorem isNaNU_any (w : World) (x : Int) : Calls Try.prog 102 #[.int .u64 x] w fun e w' => e = .returned (.bool false) ∧ w = w' := by
  go_enter Try.func102, Try.ntmps102
  go_wp2
  go_ret
  exact ⟨by simp, rfl⟩
set_option maxHeartbeats 400000 in
theorem cmpU_any (w : World) (x y : Int) : Calls Try.prog 82 #[.int .u64 x, .int .u64 y] w fun e w' => e = .returned (.int .i64 (Lib.compareInt x y)) ∧ w = w' := by
  by_cases h1 : x < y
  · have e : Lib.compareInt x y = -1 := by simp [Lib.compareInt, h1]
    have HE := Lib.hid e
    clear e
    go_enter Try.func82, Try.ntmps82
    go_wp2_with (go_at_call 102; refine (isNaNU_any _ _).mono ?_; rintro e w' ⟨rfl, rfl⟩)
    go_ret
    rw [HE.out]
    exact ⟨rfl, rfl⟩
  · by_cases h2 : y < x
    · have e : Lib.compareInt x y = 1 := by simp [Lib.compareInt, h1, h2]
      have HE := Lib.hid e
      clear e
      go_enter Try.func82, Try.ntmps82
      go_wp2_with (go_at_call 102; refine (isNaNU_any _ _).mono ?_; rintro e w' ⟨rfl, rfl⟩)
      go_ret
      rw [HE.out]
      exact ⟨rfl, rfl⟩
    · have e : Lib.compareInt x y = 0 := by simp [Lib.compareInt, h1, h2]
      have HE := Lib.hid e
      clear e
      go_enter Try.func82, Try.ntmps82
      go_wp2_with (go_at_call 102; refine (isNaNU_any _ _).mono ?_; rintro e w' ⟨rfl, rfl⟩)
      go_ret
      rw [HE.out]
      exact ⟨rfl, rfl⟩

set_option maxHeartbeats 400000 in
theorem rollCmp (w : World) (a b x : Int) : Calls Try.prog 67 #[.agg #[.int .i64 a, .int .i64 b], .int .i64 x] w fun e w' => e = .returned (.int .i64 (Lib.compareInt a x)) ∧ Below w.heap.size w w' := by
  have hc := fun W => cmpI_any W a x
  generalize Lib.compareInt a x = r at hc ⊢
  go_enter Try.func67, Try.ntmps67
  go_wp2_with (go_at_call 68; refine (hc _).mono ?_; rintro e w' ⟨rfl, rfl⟩)
  go_ret
  exact ⟨rfl, (by repeat (first | with_reducible exact Below.refl _ _ | with_reducible refine bl_alloc ?_ _ | with_reducible refine bl_drew ?_ | with_reducible refine bl_drewN ?_ _ | with_reducible refine bl_bx ?_ _ | with_reducible exact BX.below _ | with_reducible refine bl_set ?_ (by first | (exact Nat.le_refl _) | (simp; done) | (simp; omega)) _ | assumption))⟩

/-- The marks' numbers ascend. -/
def Asc (ms : List (Int × Nat)) : Prop := ms.Pairwise fun a b => a.1 < b.1
/-- How many marks have smaller numbers. -/
def lessN (ms : List (Int × Nat)) (x : Int) : Nat := ms.countP fun p => decide (p.1 < x)

theorem lessN_le (ms : List (Int × Nat)) (x : Int) : lessN ms x ≤ ms.length := List.countP_le_length
theorem asc_get {ms : List (Int × Nat)} (hA : Asc ms) {i j : Nat} (hj : j < ms.length) (hij : i < j) : (ms[i]'(by omega)).1 < ms[j].1 := List.pairwise_iff_getElem.1 hA i j (by omega) hj hij
/-- The marks with smaller numbers stand first. -/
theorem lessN_iff {ms : List (Int × Nat)} (hA : Asc ms) (x : Int) : ∀ {i : Nat} (hi : i < ms.length), i < lessN ms x ↔ ms[i].1 < x := by
  induction ms with
  | nil => intro i hi; simp at hi
  | cons p ms ih =>
    have hA' : Asc ms := (List.pairwise_cons.1 hA).2
    have hlt := (List.pairwise_cons.1 hA).1
    intro i hi
    unfold lessN
    rw [List.countP_cons]
    by_cases hp : p.1 < x
    · simp only [hp, decide_true, if_true]
      cases i with
      | zero => simp [hp]
      | succ i =>
        have := ih hA' (i := i) (by simpa using hi)
        unfold lessN at this
        simp only [List.getElem_cons_succ]
        rw [← this]; omega
    · have h0 : List.countP (fun p : Int × Nat => decide (p.1 < x)) ms = 0 := by
        rw [List.countP_eq_zero]
        intro q hq
        have := hlt q hq
        simp; omega
      simp only [hp, decide_false, h0]
      cases i with
      | zero => simp [hp]
      | succ i =>
        have hi' : i < ms.length := by simpa using hi
        have := hlt ms[i] (List.getElem_mem hi')
        simp; omega

set_option maxRecDepth 100000 in
set_option maxHeartbeats 4000000 in
theorem bsearchM (w : World) (A : Option Addr) (n c : Nat) (ms : List (Int × Nat)) (x : Int) (hn : ms.length = n) (hm : n ≤ 1000000) (hS : Sl 116 2 w A n c (mcells ms)) (hA : Asc ms) :
    Calls Try.prog 66 #[.slice A n c, .int .i64 x, .func (.func 67) #[] #[]] w fun e w' => e = .returned (.tuple #[.int .i64 (lessN ms x : Int), .bool ((ms[lessN ms x]?.map (fun p => decide (p.1 = x))).getD false)]) ∧ Below w.heap.size w w' := by
  have HN := Lib.hid hn
  have HS := Lib.hid hS
  have HA := Lib.hid hA
  clear hn hS hA
  go_enter Try.func66, Try.ntmps66
  go_wp2
  go_loopw [9, 10, 11, 15, 16, 17, 18, 19, 20, 21, 22, 23, 24, 25, 26, 27, 28, 29, 30, 31, 32, 33, 34] (fun i j _ _ _ _ _ _ _ _ _ _ _ _ _ _ _ _ _ _ _ _ _ wr => ∃ a b : Nat, a ≤ b ∧ b ≤ n ∧ i = .int .i64 a ∧ j = .int .i64 b ∧ a ≤ lessN ms x ∧ lessN ms x ≤ b ∧ Below w.heap.size w wr) (fun i j _ _ _ _ _ _ _ _ _ _ _ _ _ _ _ _ _ _ _ _ _ _ => (intOf j).toNat - (intOf i).toNat)
  case atStart => exact ⟨0, n, by omega, by omega, rfl, rfl, by omega, by have := lessN_le ms x; rw [HN.out] at this; exact this, Below.refl _ _⟩
  case round =>
    obtain ⟨a, b, hab, hbn, rfl, rfl, h1, h2, hB⟩ := hrel
    have HB := Lib.hid hB
    by_cases hlt : a < b
    · obtain ⟨h, hh⟩ : ∃ h, (a + b) / 2 = h := ⟨_, rfl⟩
      have hq : ((a : Int) + (b : Int)) / 2 = (h : Int) := by omega
      have hhn : h < n := by omega
      have hhb : a ≤ h ∧ h < b := by omega
      have hkl : h < ms.length := by rw [HN.out]; exact hhn
      obtain ⟨g, off, hA', hgl, c1, c2⟩ := (HS.out.keep (fun b hb => hB.block b (HS.out.lt hb))).mark hkl
      obtain ⟨⟨p1, p2⟩, hp⟩ : ∃ p, ms[h] = p := ⟨_, rfl⟩
      have hiff := lessN_iff HA.out x hkl
      rw [hp] at c1 c2 hiff
      have hiff' : h < lessN ms x ↔ p1 < x := hiff
      subst hA'
      clear hB hh hp hiff
      obtain ⟨hb1, hb2⟩ := hhb
      by_cases hpx : p1 < x
      · have hcm : Lib.compareInt p1 x = -1 := by simp [Lib.compareInt, hpx]
        have hge : h < lessN ms x := hiff'.2 hpx
        have HRC : Hid (Calls Try.prog 67 #[.agg #[.int .i64 p1, .int .i64 (p2 : Int)], .int .i64 x] wr fun e w' => e = .returned (.int .i64 (-1)) ∧ Below wr.heap.size wr w') := by
          have := rollCmp wr p1 p2 x
          rwa [hcm] at this
        clear hiff' hcm hab
        go_wp2_with (go_at_call 67; refine HRC.out.mono ?_; rintro e w' ⟨rfl, hb⟩; have HB2 := Lib.hid hb; clear hb)
        go_roundw
        case rel => exact ⟨h + 1, b, by omega, hbn, by go_num, rfl, by omega, h2, HB.out.trans (HB2.out.mono HB.out.size)⟩
        case measure => simp [intOf]; omega
      · have hle : lessN ms x ≤ h := by have := mt hiff'.1 hpx; omega
        obtain ⟨cv, hcv, hcn⟩ : ∃ cv, Lib.compareInt p1 x = cv ∧ ¬ cv < 0 := ⟨_, rfl, by unfold Lib.compareInt; rw [if_neg hpx]; split <;> omega⟩
        have HRC : Hid (Calls Try.prog 67 #[.agg #[.int .i64 p1, .int .i64 (p2 : Int)], .int .i64 x] wr fun e w' => e = .returned (.int .i64 cv) ∧ Below wr.heap.size wr w') := by
          have := rollCmp wr p1 p2 x
          rwa [hcv] at this
        clear hiff' hcv hab
        go_wp2_with (go_at_call 67; refine HRC.out.mono ?_; rintro e w' ⟨rfl, hb⟩; have HB2 := Lib.hid hb; clear hb)
        go_roundw
        case rel => exact ⟨a, h, by omega, by omega, rfl, by go_num, h1, hle, HB.out.trans (HB2.out.mono HB.out.size)⟩
        case measure => simp [intOf]; omega
    · obtain rfl : b = a := by omega
      have hla : lessN ms x = b := by omega
      by_cases hbn' : b < n
      · have hkl : b < ms.length := by rw [HN.out]; exact hbn'
        obtain ⟨g, off, hA', hgl, c1, c2⟩ := (HS.out.keep (fun b hb => hB.block b (HS.out.lt hb))).mark hkl
        obtain ⟨⟨p1, p2⟩, hp⟩ : ∃ p, ms[b] = p := ⟨_, rfl⟩
        have hiff := lessN_iff HA.out x hkl
        rw [hp] at c1 c2 hiff
        have hpx : ¬ p1 < x := fun h => by have := hiff.2 h; omega
        have HR : Hid (lessN ms x = b ∧ ((ms[lessN ms x]?.map (fun p => decide (p.1 = x))).getD false) = decide (p1 = x)) := by
          show _ ∧ _
          rw [hla, List.getElem?_eq_getElem hkl, hp]
          exact ⟨rfl, rfl⟩
        subst hA'
        obtain ⟨cv, hcv, hcn⟩ : ∃ cv, Lib.compareInt p1 x = cv ∧ (cv == 0) = decide (p1 = x) := ⟨_, rfl, by unfold Lib.compareInt; rw [if_neg hpx]; by_cases he : p1 = x <;> simp [he]; omega⟩
        have HRC : Hid (Calls Try.prog 67 #[.agg #[.int .i64 p1, .int .i64 (p2 : Int)], .int .i64 x] wr fun e w' => e = .returned (.int .i64 cv) ∧ Below wr.heap.size wr w') := by
          have := rollCmp wr p1 p2 x
          rwa [hcv] at this
        have HCN := Lib.hid hcn
        clear hB hp hiff hla hcv h1 h2 hab hcn hlt
        go_wp2_with (go_at_call 67; refine HRC.out.mono ?_; rintro e w' ⟨rfl, hb⟩; have HB2 := Lib.hid hb; clear hb)
        go_ret2
        rw [HR.out.2, HR.out.1, ← HCN.out]
        exact ⟨rfl, HB.out.trans (HB2.out.mono HB.out.size)⟩
      · obtain rfl : b = n := by omega
        have HR : Hid (lessN ms x = b ∧ ((ms[lessN ms x]?.map (fun p => decide (p.1 = x))).getD false) = false) := by
          show _ ∧ _
          rw [hla, List.getElem?_eq_none (by rw [HN.out]; exact Nat.le_refl _)]
          exact ⟨rfl, rfl⟩
        clear hB hla h1 h2 hab hlt
        go_wp2
        go_ret2
        rw [HR.out.2, HR.out.1]
        exact ⟨rfl, HB.out⟩
end Go.Proofs.Ytngkhligjkcbmaa

namespace Go.Proofs.Ytngkhligjkcbmaa
open Go.RowKit
set_option linter.unusedVariables false

/-- What a rollback to a mark leaves. -/
def OvS.rollTo (S : OvS) (k l : Nat) : OvS := { S with marks := S.marks.take (k + 1), log := S.log.take l }
def OvS.roll (S : OvS) (x : Int) : Option OvS := match S.marks[lessN S.marks x]? with
  | some p => if p.1 = x then some (S.rollTo (lessN S.marks x) p.2) else none
  | none => none
theorem ownsMap_keep {w w' : World} {b n : Nat} {D : DataW Unit} (h : w.ownsMap Try.prog 30 (plainElem Try.prog 30) b n D) (hb : w'.heap[b]? = w.heap[b]?) : w'.ownsMap Try.prog 30 (plainElem Try.prog 30) b n D := by
  obtain ⟨es, clock, h1, r⟩ := h
  exact ⟨es, clock, hb.trans h1, r⟩
/-- The loop's invariant. -/
def RolInv (w : World) (o : Nat) (B : Value) (mb : Nat) (la : Option Addr) (l : Nat) (ma : Option Addr) (k : Nat) (S : OvS) (i : Nat) (wr : World) : Prop :=
  UMap wr mb (lastV (S.log.take i)) i ∧ Ch (fun b => b = o ∨ b = mb) w wr ∧
    CB wr o 110 #[B, .map (some mb), .slice la l l, .slice ma (k + 1) (k + 1), .int .i64 S.next, .bool S.broken]

set_option maxRecDepth 100000 in
set_option maxHeartbeats 4000000 in
theorem ovRollback_no {F : Nat → Prop} {o T : Nat} {S : OvS} (w : World) (h : OV F o (bT T) w S) (hmk : S.marks.length < 1000000) (hA : Asc S.marks) (x : Int) (hr : S.roll x = none) :
    Calls Try.prog 27 #[.pointer (some ⟨o, 0, none⟩), .int .i64 x] w fun e w' => e = .returned (.int .i64 1) ∧ Below w.heap.size w w' := by
  obtain ⟨h0, hl⟩ := h.base
  obtain ⟨hF, mb, la, lc, ma, mc, h2, f1, f2, f3, f4⟩ := h
  have c3 : w.cell? ⟨o, 3, none⟩ = some (.slice ma S.marks.length mc) := h2.ov.cell_some rfl
  have HB := Lib.hid (bsearchM w ma S.marks.length mc S.marks x rfl (by omega) h2.mks hA)
  have hnf : ((S.marks[lessN S.marks x]?.map (fun p => decide (p.1 = x))).getD false) = false := by
    unfold OvS.roll at hr
    cases hg : S.marks[lessN S.marks x]? with
    | none => rfl
    | some p =>
      rw [hg] at hr
      by_cases hp : p.1 = x
      · simp [hp] at hr
      · simp [hp]
  rw [hnf] at HB
  obtain ⟨q, hq⟩ : ∃ q, S.marks.length = q := ⟨_, rfl⟩
  obtain ⟨z, hz⟩ : ∃ z, lessN S.marks x = z := ⟨_, rfl⟩
  rw [hq] at c3 HB
  rw [hz] at HB
  unfold bT at h0
  clear h2 hF f1 f2 f3 f4 hnf hr hmk hA hq hz
  go_enter Try.func27, Try.ntmps27
  go_wp2_with (first | (go_at_call 66; refine HB.out.mono ?_; rintro e w' ⟨rfl, hb⟩))
  go_ret
  exact ⟨rfl, hb⟩

set_option maxRecDepth 100000 in
set_option maxHeartbeats 4000000 in
theorem ovRollback_ok {F : Nat → Prop} {o T : Nat} {S S' : OvS} (w : World) (h : OV F o (bT T) w S) (hlog : S.log.length < 1000000) (hmk : S.marks.length < 1000000) (hA : Asc S.marks) (hlen : ∀ p ∈ S.marks, p.2 ≤ S.log.length) (hwfs : ∀ p ∈ S.log, (0 ≤ p.1 ∧ p.1 < 18446744073709551616) ∧ (0 ≤ p.2 ∧ p.2 < 18446744073709551616)) (x : Int) (hr : S.roll x = some S') :
    Calls Try.prog 27 #[.pointer (some ⟨o, 0, none⟩), .int .i64 x] w fun e w' => e = .returned (.int .i64 0) ∧ OV F o (bT T) w' S' ∧ Ch F w w' := by
  have HWF := Lib.hid hwfs
  clear hwfs
  obtain ⟨h0, hl⟩ := h.base
  obtain ⟨hF, mb, la, lc, ma, mc, h2, f1, f2, f3, f4⟩ := h
  obtain ⟨k, hk, l, hkl, hml, hkx, hS'⟩ : ∃ k, lessN S.marks x = k ∧ ∃ (l : Nat) (hkl : k < S.marks.length), l ≤ S.log.length ∧ S.marks[k] = (x, l) ∧ S' = S.rollTo k l := by
    refine ⟨_, rfl, ?_⟩
    unfold OvS.roll at hr
    cases hg : S.marks[lessN S.marks x]? with
    | none => rw [hg] at hr; cases hr
    | some p =>
      rw [hg] at hr
      obtain ⟨hlt, hp⟩ := List.getElem?_eq_some_iff.1 hg
      by_cases hpx : p.1 = x
      · dsimp only at hr
        rw [if_pos hpx] at hr
        injection hr with hr
        refine ⟨p.2, hlt, hlen p (hp ▸ List.getElem_mem hlt), ?_, hr.symm⟩
        rw [hp, ← hpx]
      · dsimp only at hr
        rw [if_neg hpx] at hr; cases hr
  have hfd : ((S.marks[k]?.map (fun p => decide (p.1 = x))).getD false) = true := by
    rw [List.getElem?_eq_getElem hkl, hkx]; simp
  have HB := bsearchM w ma S.marks.length mc S.marks x rfl (by omega) h2.mks hA
  rw [hk, hfd] at HB
  obtain ⟨g, off, hma, hg, k1, k2⟩ := h2.mks.mark hkl
  rw [hkx] at k1 k2
  have k2' : w.cell? ⟨g, off + k * 2 + 1, none⟩ = some (.int .i64 (l : Int)) := k2
  have hmc : S.marks.length ≤ mc ∧ mc ≤ maxLen := by
    rcases h2.mks.2 with ⟨hx, _⟩ | ⟨_, _, _, _, _, y1, y2, _⟩
    · rw [hma] at hx; cases hx
    · exact ⟨y1, y2⟩
  have hlc : S.log.length ≤ lc ∧ lc ≤ maxLen := by
    rcases h2.lg.2 with ⟨_, h1, h3⟩ | ⟨_, _, _, _, _, y1, y2, _⟩
    · exact ⟨by omega, by omega⟩
    · exact ⟨y1, y2⟩
  have c1 : w.cell? ⟨o, 1, none⟩ = some (.map (some mb)) := h2.ov.cell_some rfl
  have c2 : w.cell? ⟨o, 2, none⟩ = some (.slice la S.log.length lc) := h2.ov.cell_some rfl
  have c3 : w.cell? ⟨o, 3, none⟩ = some (.slice ma S.marks.length mc) := h2.ov.cell_some rfl
  have fz2 := h2.ov.frozen 2
  have fz3 := h2.ov.frozen 3
  obtain ⟨m, hm⟩ : ∃ m, S.log.length = m := ⟨_, rfl⟩
  obtain ⟨q, hq⟩ : ∃ q, S.marks.length = q := ⟨_, rfl⟩
  have H2 := Lib.hid h2
  have HF := Lib.hid (And.intro hF (And.intro f1 (And.intro f2 (And.intro f3 f4))))
  have HM := Lib.hid hm
  have HQ := Lib.hid hq
  have HMA := Lib.hid hma
  have HS' := Lib.hid hS'
  rw [hm] at c2 hml hlc hlog
  rw [hq, hma] at c3 HB
  rw [hq] at hmc hmk hkl
  have HBB := Lib.hid HB
  obtain ⟨hmc1, hmc2⟩ := hmc
  obtain ⟨hlc1, hlc2⟩ := hlc
  have hmc3 : mc ≤ 9223372036854775807 := by unfold maxLen at hmc2; omega
  have hlc3 : lc ≤ 9223372036854775807 := by unfold maxLen at hlc2; omega
  unfold bT at h0
  clear h2 hF f1 f2 f3 f4 hA hlen hr hk hkx hS' hfd HB k1 k2 hm hq hma hmc2 hlc2
  go_enter Try.func27, Try.ntmps27
  go_upto_region 9 with (first | (go_at_call 66; refine HBB.out.mono ?_; rintro e w' ⟨rfl, hb⟩; obtain ⟨x1, rfl⟩ := bx_of hb; clear hb))
  obtain ⟨W, hW⟩ : ∃ W, (x1.w.setCell ⟨o, 3, none⟩ (.slice (some ⟨g, off, none⟩) (k + 1) (k + 1))).setCell ⟨o, 2, none⟩ (.slice la l l) = W := ⟨_, rfl⟩
  have hWc : Ch (fun b => b = o ∨ b = mb) w W := by
    rw [← hW]
    exact ((Ch.of_below x1.below).setCell (a := ⟨o, 3, none⟩) (.inl (.inl rfl)) _).setCell (a := ⟨o, 2, none⟩) (.inl (.inl rfl)) _
  have hWo : CB W o 110 #[bT T, .map (some mb), .slice la l l, .slice (some ⟨g, off, none⟩) (k + 1) (k + 1), .int .i64 S.next, .bool S.broken] := by
    rw [← hW]
    exact (((H2.out.ov.below x1.below).set 3 (.slice (some ⟨g, off, none⟩) (k + 1) (k + 1))).set 2 (.slice la l l))
  have hWm : W.heap[mb]? = w.heap[mb]? := by
    rw [← hW]
    exact (Below.heap_setCell _ ⟨o, 2, none⟩ _ mb H2.out.om.symm).trans ((Below.heap_setCell _ ⟨o, 3, none⟩ _ mb H2.out.om.symm).trans (x1.below.block mb H2.out.mp.lt))
  obtain ⟨W2, hcl, hc2, hu2⟩ : ∃ W2, (∀ ty, (Builtin.clear_ #[107] ty #[.map (some mb)]).run Try.prog W = .ok (.tuple #[]) W2) ∧ Ch (At mb) W W2 ∧ UMap W2 mb (fun _ => none) 0 := by
    obtain ⟨D, ⟨es, clock, hb0, _⟩, _⟩ := H2.out.mp
    have hb1 : W.heap[mb]? = some (.map es clock) := hWm.trans hb0
    exact ⟨_, fun ty => run_clear_map (P := Try.prog) W 107 ty 30 30 under_words mb es clock hb1, ch_clear_map W mb _, UMap.cleared W mb clock (Array.getElem?_eq_some_iff.1 hb1).1⟩
  have hWl := hWo.lt
  have hWo2 := hWo.ch hc2 (fun h => H2.out.om h)
  have d1 : W.cell? ⟨o, 1, none⟩ = some (.map (some mb)) := hWo.cell_some rfl
  have d2 : W2.cell? ⟨o, 2, none⟩ = some (.slice la l l) := hWo2.cell_some rfl
  have d3 := hWo2.lt
  have HI0 : Hid (RolInv w o (bT T) mb la l (some ⟨g, off, none⟩) k S 0 W2) := ⟨hu2, hWc.trans hc2 (fun b h _ => .inr h), hWo2⟩
  rw [hW]
  clear hW hWc hWo hWm hc2 hu2 hWo2 c1 c2 c3 fz2 fz3 k2'
  go_wp2
  clear hcl d1 d2 d3 hWl
  go_loopw [69, 9, 70, 71, 72, 73, 74, 75, 76, 77, 78, 79, 80, 81] (fun i _ _ _ _ _ _ _ _ _ _ _ _ _ wr => ∃ j : Nat, j ≤ l ∧ i = .int .i64 j ∧ RolInv w o (bT T) mb la l (some ⟨g, off, none⟩) k S j wr) (fun i _ _ _ _ _ _ _ _ _ _ _ _ _ _ => l - (intOf i).toNat)
  case atStart => exact ⟨0, by omega, rfl, HI0.out⟩
  case round =>
    clear HI0
    obtain ⟨j, hj, rfl, ⟨D, hown, hD⟩, hC, hO⟩ := hrel
    have HO := Lib.hid hO
    have HC := Lib.hid hC
    have HD := Lib.hid hD
    have HOW := Lib.hid hown
    have e1 : wr.cell? ⟨o, 1, none⟩ = some (.map (some mb)) := hO.cell_some rfl
    have e0 := hO.lt
    by_cases hlt : j < l
    · have hjl : j < S.log.length := by rw [HM.out]; omega
      have hls : Sl 34 2 wr la S.log.length lc (wcells S.log) := H2.out.lg.ch hC (fun b hb => by
        obtain ⟨a1, a2⟩ := H2.out.ol b hb
        rintro (h | h)
        · exact a1 h
        · exact a2 h)
      obtain ⟨gw, ow, hA', hgl, e2, e3⟩ := hls.wr hjl
      obtain ⟨⟨of, v⟩, hp⟩ : ∃ p, S.log[j] = p := ⟨_, rfl⟩
      rw [hp] at e2 e3
      rw [show 2 * j = j * 2 by omega] at e2 e3
      have HP := Lib.hid hp
      clear hown hD hC hO hls hp
      subst hA'
      have hpp := HWF.out _ (List.getElem_mem hjl)
      rw [HP.out] at hpp
      have hwf : (Lit.int .u64 of).wf = true := wf_u64_mk hpp.1
      have hwv : (Lit.int .u64 v).wf = true := wf_u64_mk hpp.2
      have hfl : j < maxLen := by unfold maxLen; omega
      clear hpp
      go_wp2
      obtain ⟨V, hV⟩ : ∃ V, wr.alloc (.cells #[.int .u64 of, .int .u64 v] 34) = V := ⟨_, rfl⟩
      have hVb : Below wr.heap.size wr V := by rw [← hV]; exact bl_alloc (Below.refl _ _) _
      have hVt : CB V wr.heap.size 34 #[.int .u64 of, .int .u64 v] := by rw [← hV]; exact CB.new wr _ _
      obtain ⟨tv, htv⟩ : ∃ tv, wr.heap.size = tv := ⟨_, rfl⟩
      have y0 : V.cell? ⟨tv, 0, none⟩ = some (.int .u64 of) := by rw [← htv]; exact hVt.cell_some rfl
      have y1 : V.cell? ⟨tv, 1, none⟩ = some (.int .u64 v) := by rw [← htv]; exact hVt.cell_some rfl
      have y2 : tv < V.heap.size := by rw [← htv]; exact hVt.lt
      have y3 : V.cell? ⟨o, 1, none⟩ = some (.map (some mb)) := (hVb.cell (p := ⟨o, 1, none⟩) e0).trans e1
      have y4 : o < V.heap.size := Nat.lt_of_lt_of_le e0 hVb.size
      have HVO := Lib.hid (ownsMap_keep HOW.out (hVb.block mb HOW.out.lt))
      have HVB := Lib.hid hVb
      rw [hV, htv]
      clear hV hVb hVt htv
      refine wp_region_still_n 8 (by kernel_rfl) (by kernel_rfl) ?_
      simp only [List.take_succ_cons, List.take_zero, List.drop_succ_cons, List.drop_zero]
      repeat (go_big_quiet_step (fail))
      refine wpQuiet_nil ?_
      rintro _ ⟨nq, rfl⟩
      refine wpList_mapUpdate_own _ rfl _ _ _ 107 rfl 30 30 keyedU under_words _ mb j D rfl HVO.out hfl _ _ (.int .u64 of) rfl rfl (Maps.keyOf_int_mk Try.underlying30 hwf) _ [] (plainElem_int Try.underlying30 hwv) ?_
      intro w2 hown2 hg2
      have HO2 := Lib.hid hown2
      have HG2 := Lib.hid hg2
      clear hown2 hg2
      go_wp2
      go_roundw
      case rel =>
        refine ⟨j + 1, by omega, by go_num, ?_, ?_, ?_⟩
        · have hN := UMap.put of v D HVO.out.isMap HD.out HO2.out
          have e9 : (fun x => if of = x then some v else lastV (S.log.take j) x) = lastV (S.log.take (j + 1)) := by
            funext x
            rw [List.take_succ_eq_append_getElem hjl, HP.out, lastV_snoc]
          rw [e9] at hN
          exact hN
        · refine (HC.out.trans (T := fun _ => False) (Ch.of_below HVB.out) (fun _ h _ => h.elim)).trans (T := At mb) ⟨HG2.out.os, HG2.out.tape, HG2.out.output, HG2.out.size, fun b hb hS => HG2.out.block b hb (fun h => hS (by cases h; rfl))⟩ (fun b hb _ => .inr hb)
        · exact (HO.out.below HVB.out).keep (HG2.out.block o y4 (some_ne H2.out.om))
      case measure => simp [intOf]; omega
    · obtain rfl : j = l := by omega
      clear hown hD hC hO
      go_wp2
      go_ret
      rw [HS'.out]
      obtain ⟨hF, f1, f2, f3, f4⟩ := HF.out
      have hl1 : (S.rollTo k j).log.length = j := by simp [OvS.rollTo, HM.out]; omega
      have hl2 : (S.rollTo k j).marks.length = k + 1 := by simp [OvS.rollTo, HQ.out]; omega
      have hno : ∀ b, OwnB la b → ¬ (b = o ∨ b = mb) := fun b hb h => by
        obtain ⟨a1, a2⟩ := H2.out.ol b hb
        rcases h with h | h
        · exact a1 h
        · exact a2 h
      have hna : ∀ b, OwnB ma b → ¬ (b = o ∨ b = mb) := fun b hb h => by
        obtain ⟨a1, a2, _⟩ := H2.out.oa b hb
        rcases h with h | h
        · exact a1 h
        · exact a2 h
      refine ⟨rfl, ⟨fun b hb => hF b (Nat.le_trans HC.out.size hb), mb, la, j, ma, k + 1, ⟨?_, ?_, ?_, ?_, H2.out.om, H2.out.ol, H2.out.oa⟩, f1, f2, f3, f4⟩, HC.out.mono (fun b h _ => ?_)⟩
      · rw [hl1, hl2, HMA.out]; exact HO.out
      · rw [hl1]; exact ⟨D, HOW.out, HD.out⟩
      · rw [hl1]
        have := (H2.out.lg.ch HC.out hno).clip j (by rw [HM.out]; exact hml)
        rwa [wcells_take] at this
      · rw [hl2]
        have := (H2.out.mks.ch HC.out hna).clip (k + 1) (by rw [HQ.out]; omega)
        rwa [mcells_take] at this
      · rcases h with rfl | rfl
        · exact f1
        · exact f2
end Go.Proofs.Ytngkhligjkcbmaa

namespace Go.Proofs.Ytngkhligjkcbmaa
open Go.RowKit
set_option linter.unusedVariables false

/-- The last line of some words from an offset on. -/
def lastLine (off : Int) (n : Nat) : Int := if off / 8 + ((n : Int) - 1) ≤ 2305843009213693951 then (off / 8 + ((n : Int) - 1)) / 8 else 288230376151711743
def lineCount (off : Int) (n : Nat) : Nat := (lastLine off n - off / 64 + 1).toNat
def flushP (off : Int) (k : Nat) : List Ins := (List.range k).map fun (i : Nat) => (2, 64 * (off / 64) + 64 * (i : Int), 0)
/-- The program of Persist. -/
def persistP (off : Int) (n : Nat) : List Ins := if n = 0 then [] else flushP off (lineCount off n) ++ [(3, 0, 0)]
theorem length_flushP (off : Int) (k : Nat) : (flushP off k).length = k := by simp [flushP]
theorem flushP_succ (off : Int) (k : Nat) : flushP off (k + 1) = flushP off k ++ [(2, 64 * (off / 64) + 64 * (k : Int), 0)] := by simp [flushP, List.range_succ]

theorem run_make_prog (w : World) (m : Nat) (hm : m ≤ 1000000) : (Instr.makeSlice 25 (.int .i64 0) (.int .u64 (m : Int))).run Try.prog w =
    .ok (.slice (some ⟨w.heap.size, 0, none⟩) 0 m) (w.alloc (.cells (madeCells #[.int .u8 0, .int .u64 0, .int .u64 0] (m * 3)) 32)) := by
  have hinfo := info_instr
  cases hi : Try.prog.info? 32 with
  | none => rw [hi] at hinfo; cases hinfo
  | some i =>
    rw [hi] at hinfo
    simp only [Option.map_some, Option.some.injEq, Prod.mk.injEq] at hinfo
    obtain ⟨hz, hs, hb⟩ := hinfo
    have hr := run_make (P := Try.prog) w 25 32 i _ Try.underlying25 hi hz .i64 .u64 0 m (by omega) (by omega) (by rw [hb]; omega) (by omega)
    rw [hr, hs]
    rfl

/-- The loop's invariant. -/
def PstInv (w : World) (off : Int) (k : Nat) (A : Option Addr) (c : Nat) (wr : World) : Prop :=
  Sl 32 3 wr A k c (pcells (flushP off k)) ∧ Below w.heap.size w wr ∧ ∀ b, OwnB A b → w.heap.size ≤ b
set_option maxRecDepth 100000 in
set_option maxHeartbeats 4000000 in
theorem memPersist (w : World) (off : Int) (n : Nat) (hoff : 0 ≤ off ∧ off < 18446744073709551616) (hn : n ≤ 1000) :
    Calls Try.prog 59 #[.int .u64 off, .int .i64 (n : Int)] w (StoPost w (persistP off n)) := by
  rcases Nat.eq_zero_or_pos n with rfl | hpos
  · have hp : persistP off 0 = [] := rfl
    rw [hp]
    clear hp
    go_enter Try.func59, Try.ntmps59
    go_wp2
    go_ret
    exact ⟨none, 0, rfl, Sl.nil, Below.refl _ _, by simp [OwnB]⟩
  · obtain ⟨o1, o2⟩ := hoff
    have q0 : ¬ (n : Int) < 1 := by omega
    obtain ⟨of8, hof8⟩ : ∃ of8 : Int, off / 8 = of8 := ⟨_, rfl⟩
    obtain ⟨ol, hol⟩ : ∃ ol : Int, off / 64 = ol := ⟨_, rfl⟩
    have e1 : IntKind.u64.wrap (off - off % 8) = 8 * of8 := by rw [IntWalk.u64_in _ (by omega)]; omega
    have e2 : IntKind.u64.wrap ((n : Int) - 1) = (n : Int) - 1 := IntWalk.u64_in _ (by omega)
    have e3 : IntKind.u64.wrap (18446744073709551615 - 8 * of8) = 18446744073709551615 - 8 * of8 := IntWalk.u64_in _ (by omega)
    have e4 : (18446744073709551615 - 8 * of8) / 8 = 2305843009213693951 - of8 := by omega
    have HO := Lib.hid (And.intro hof8 hol)
    obtain ⟨ll, hll⟩ : ∃ ll, lastLine off n = ll := ⟨_, rfl⟩
    obtain ⟨m, hm⟩ : ∃ m, lineCount off n = m := ⟨_, rfl⟩
    have hlb : ol ≤ ll ∧ ll ≤ ol + 1000 ∧ 0 ≤ ol ∧ ll ≤ 288230376151711743 ∧ 64 * ol ≤ off ∧ off < 64 * ol + 64 ∧ (m : Int) = ll - ol + 1 := by
      rw [← hm]
      unfold lineCount
      rw [hll]
      unfold lastLine at hll
      rw [hof8] at hll
      split at hll <;> omega
    obtain ⟨h1, h2, h3, h4, h5, h6, h7⟩ := hlb
    obtain ⟨q, hq⟩ : ∃ q : Nat, ll - ol = (q : Int) := ⟨(ll - ol).toNat, by omega⟩
    obtain ⟨L, hL, hLs, hLb⟩ : ∃ L : Int, L = (if (n : Int) - 1 ≤ 2305843009213693951 - of8 then 8 * of8 + ((n : Int) - 1) * 8 else 18446744073709551615) ∧ startOf L = 64 * ll ∧ 0 ≤ L ∧ L < 18446744073709551616 := by
      refine ⟨_, rfl, ?_⟩
      rw [← hll]
      unfold lastLine startOf
      rw [hof8]
      by_cases hA : (n : Int) - 1 ≤ 2305843009213693951 - of8
      · rw [if_pos hA, if_pos (by omega)]
        omega
      · rw [if_neg hA, if_neg (by omega)]
        omega
    have HS1 : Hid (∀ W, Calls Try.prog 92 #[.int .u64 L] W fun e w' => e = .returned (.int .u64 (64 * ll)) ∧ W = w') := fun W => by
      have := memStart W L hLb
      rwa [hLs] at this
    have HS2 : Hid (∀ W, Calls Try.prog 92 #[.int .u64 (8 * of8)] W fun e w' => e = .returned (.int .u64 (64 * ol)) ∧ W = w') := fun W => by
      have := memStart W (8 * of8) (by omega)
      rwa [show startOf (8 * of8) = 64 * ol by unfold startOf; omega] at this
    have e8 : IntKind.u64.wrap (64 * ll - 64 * ol) = 64 * (q : Int) := by rw [IntWalk.u64_in _ (by omega)]; omega
    have e9 : 64 * (q : Int) / 64 = (q : Int) := by omega
    have e12 : IntKind.u64.wrap (q : Int) = (q : Int) := IntWalk.u64_in _ (by omega)
    have e10 : IntKind.u64.wrap ((q : Int) + 1) = (m : Int) := by rw [IntWalk.u64_in _ (by omega)]; omega
    have q9 : ¬ (m : Int) > 2147483647 := by omega
    obtain ⟨m1, hm1⟩ : ∃ m1, m + 1 = m1 := ⟨_, rfl⟩
    have e11 : IntKind.u64.wrap ((m : Int) + 1) = (m1 : Int) := by rw [IntWalk.u64_in _ (by omega)]; omega
    have hmk := fun W => run_make_prog W m1 (by omega)
    have HP : Hid (persistP off n = flushP off m ++ [(3, 0, 0)]) := by
      show _ = _
      unfold persistP
      rw [if_neg (by omega), hm]
    have hmb : m ≤ 100000 ∧ m1 ≤ 100001 := by omega
    obtain ⟨hmb, hm1b⟩ := hmb
    have HOL : Hid (0 ≤ ol ∧ 64 * ol ≤ off ∧ off < 18446744073709551616 ∧ 64 * ol + 64 * (m : Int) ≤ 18446744073709551616) := ⟨h3, h5, o2, by omega⟩
    have HM1 := Lib.hid hm1
    rw [HP.out]
    have o3 : 0 ≤ of8 ∧ 0 ≤ 2305843009213693951 - of8 := by omega
    obtain ⟨o3, o4⟩ := o3
    have o5 : 0 ≤ 18446744073709551615 - 8 * of8 := by omega
    clear h1 h2 h4 h5 h6 h7 hq hLs hLb hll hm hm1 hof8 hol
    by_cases hA : (n : Int) - 1 ≤ 2305843009213693951 - of8
    · rw [if_pos hA] at hL
      have e5 : IntKind.u64.wrap (((n : Int) - 1) * 8) = ((n : Int) - 1) * 8 := IntWalk.u64_in _ (by omega)
      have e6 : IntKind.u64.wrap (8 * of8 + ((n : Int) - 1) * 8) = L := by rw [IntWalk.u64_in _ (by omega)]; omega
      clear hL
      go_enter Try.func59, Try.ntmps59
      go_wp2_with (first | (go_at_call 92; first | (with_reducible refine (HS1.out _).mono ?_; rintro e w' ⟨rfl, rfl⟩) | (with_reducible refine (HS2.out _).mono ?_; rintro e w' ⟨rfl, rfl⟩)))
      have HI0 : Hid (PstInv w off 0 (some ⟨w.heap.size, 0, none⟩) m1 (w.alloc (.cells (madeCells #[.int .u8 0, .int .u64 0, .int .u64 0] (m1 * 3)) 32))) := by
        refine ⟨⟨by simp [flushP, pcells], .inr ⟨w.heap.size, 0, _, rfl, CB.new w _ _, by omega, by unfold maxLen; omega, by rw [size_madeCells]; omega, by simp [flushP, pcells]⟩⟩, bl_alloc (Below.refl _ _) _, by simp [OwnB]⟩
      clear hmk
      obtain ⟨W, hW⟩ : ∃ W, w.alloc (.cells (madeCells #[.int .u8 0, .int .u64 0, .int .u64 0] (m1 * 3)) 32) = W := ⟨_, rfl⟩
      rw [hW] at HI0 ⊢
      clear hW
      go_loopw [42, 8, 9, 43, 44, 45, 46, 47, 48, 49, 50, 51, 52, 53, 54] (fun i p _ _ _ _ _ _ _ _ _ _ _ _ _ wr => ∃ (k : Nat) (A : Option Addr) (c : Nat), k ≤ m ∧ i = .int .u64 k ∧ p = .slice A k c ∧ PstInv w off k A c wr) (fun i p _ _ _ _ _ _ _ _ _ _ _ _ _ _ => m - (intOf i).toNat)
      case atStart => exact ⟨0, _, _, by omega, rfl, rfl, HI0.out⟩
      case round =>
        clear HI0
        obtain ⟨k, A, c, hk, rfl, rfl, hS, hB, hO⟩ := hrel
        have HS := Lib.hid hS
        have HB := Lib.hid hB
        have HOO := Lib.hid hO
        clear hS hB hO
        by_cases hlt : k < m
        · have hlt' : (k : Int) < (m : Int) := by omega
          obtain ⟨y1, y2, y3, y4⟩ := HOL.out
          have f1 : IntKind.u64.wrap ((k : Int) * 64) = (k : Int) * 64 := IntWalk.u64_in _ (by omega)
          obtain ⟨v, hv⟩ : ∃ v : Int, 64 * ol + 64 * (k : Int) = v := ⟨_, rfl⟩
          have f2 : IntKind.u64.wrap (64 * ol + (k : Int) * 64) = v := by rw [IntWalk.u64_in _ (by omega)]; omega
          have f3 : IntKind.u64.wrap ((k : Int) + 1) = ((k + 1 : Nat) : Int) := by rw [IntWalk.u64_in _ (by omega)]; omega
          have HV := Lib.hid hv
          clear hv y1 y2 y3 y4
          go_wp2_with (first
            | (go_at_call 92; refine (HS2.out _).mono ?_; rintro e w' ⟨rfl, rfl⟩)
            | (at_builtin; refine wpList_append_sl rfl (.tmp 45) (.tmp 52) 25 rfl 32 (.agg #[.int .u8 0, .int .u64 0, .int .u64 0]) 3 24 rfl (by omega) Try.underlying25 info_instr (by omega) A k c (pcells (flushP off k)) ⟨wr.heap.size, 0, none⟩ 1 1 [.int .u8 2, .int .u64 v, .int .u64 0] rfl rfl (HS.out.keep (fun b hb => Below.heap_alloc _ _ b (HS.out.lt hb))) rfl (by omega) (cells_three wr 32 _ _ _) (ins_one _ _ _) (by omega) ?_; intro A2 c2 w2 HO2 HC2 HW2 HN2))
          refine ⟨⟨k + 1, A2, c2, by omega, by go_num, rfl, ?_, ?_, ?_⟩, by simp [intOf]; omega⟩
          · have e1 : pcells (flushP off (k + 1)) = pcells (flushP off k) ++ [.int .u8 2, .int .u64 v, .int .u64 0] := by
              rw [flushP_succ, pcells_append, HO.out.2, HV.out]; rfl
            rw [e1]; exact HO2.out
          · exact bl_ch (bl_alloc HB.out _) HC2.out (fun b hb => HOO.out b hb)
          · intro b hb
            rcases HW2.out b hb with h | h
            · exact HOO.out b h
            · rw [h]; have := HB.out.size; simp; omega
        · obtain rfl : k = m := by omega
          go_wp2_with (first
            | (at_builtin; refine wpList_append_sl rfl (.tmp 55) (.tmp 57) 25 rfl 32 (.agg #[.int .u8 0, .int .u64 0, .int .u64 0]) 3 24 rfl (by omega) Try.underlying25 info_instr (by omega) A k c (pcells (flushP off k)) ⟨wr.heap.size, 0, none⟩ 1 1 [.int .u8 3, .int .u64 0, .int .u64 0] rfl rfl (HS.out.keep (fun b hb => Below.heap_alloc _ _ b (HS.out.lt hb))) rfl (by omega) (cells_three wr 32 _ _ _) (ins_one _ _ _) (by omega) ?_; intro A2 c2 w2 HO2 HC2 HW2 HN2))
          go_ret
          have e1 : (flushP off k ++ [(3, 0, 0)]).length = k + 1 := by simp [length_flushP]
          refine ⟨A2, c2, by rw [e1]; rfl, ?_, ?_, ?_⟩
          · rw [e1, pcells_append]; exact HO2.out
          · exact bl_ch (bl_alloc HB.out _) HC2.out (fun b hb => HOO.out b hb)
          · intro b hb
            rcases HW2.out b hb with h | h
            · exact HOO.out b h
            · rw [h]; have := HB.out.size; simp; omega
    · rw [if_neg hA] at hL
      subst hL
      go_enter Try.func59, Try.ntmps59
      go_wp2_with (first | (go_at_call 92; first | (with_reducible refine (HS1.out _).mono ?_; rintro e w' ⟨rfl, rfl⟩) | (with_reducible refine (HS2.out _).mono ?_; rintro e w' ⟨rfl, rfl⟩)))
      have HI0 : Hid (PstInv w off 0 (some ⟨w.heap.size, 0, none⟩) m1 (w.alloc (.cells (madeCells #[.int .u8 0, .int .u64 0, .int .u64 0] (m1 * 3)) 32))) := by
        refine ⟨⟨by simp [flushP, pcells], .inr ⟨w.heap.size, 0, _, rfl, CB.new w _ _, by omega, by unfold maxLen; omega, by rw [size_madeCells]; omega, by simp [flushP, pcells]⟩⟩, bl_alloc (Below.refl _ _) _, by simp [OwnB]⟩
      clear hmk
      obtain ⟨W, hW⟩ : ∃ W, w.alloc (.cells (madeCells #[.int .u8 0, .int .u64 0, .int .u64 0] (m1 * 3)) 32) = W := ⟨_, rfl⟩
      rw [hW] at HI0 ⊢
      clear hW
      go_loopw [42, 8, 9, 43, 44, 45, 46, 47, 48, 49, 50, 51, 52, 53, 54] (fun i p _ _ _ _ _ _ _ _ _ _ _ _ _ wr => ∃ (k : Nat) (A : Option Addr) (c : Nat), k ≤ m ∧ i = .int .u64 k ∧ p = .slice A k c ∧ PstInv w off k A c wr) (fun i p _ _ _ _ _ _ _ _ _ _ _ _ _ _ => m - (intOf i).toNat)
      case atStart => exact ⟨0, _, _, by omega, rfl, rfl, HI0.out⟩
      case round =>
        clear HI0
        obtain ⟨k, A, c, hk, rfl, rfl, hS, hB, hO⟩ := hrel
        have HS := Lib.hid hS
        have HB := Lib.hid hB
        have HOO := Lib.hid hO
        clear hS hB hO
        by_cases hlt : k < m
        · have hlt' : (k : Int) < (m : Int) := by omega
          obtain ⟨y1, y2, y3, y4⟩ := HOL.out
          have f1 : IntKind.u64.wrap ((k : Int) * 64) = (k : Int) * 64 := IntWalk.u64_in _ (by omega)
          obtain ⟨v, hv⟩ : ∃ v : Int, 64 * ol + 64 * (k : Int) = v := ⟨_, rfl⟩
          have f2 : IntKind.u64.wrap (64 * ol + (k : Int) * 64) = v := by rw [IntWalk.u64_in _ (by omega)]; omega
          have f3 : IntKind.u64.wrap ((k : Int) + 1) = ((k + 1 : Nat) : Int) := by rw [IntWalk.u64_in _ (by omega)]; omega
          have HV := Lib.hid hv
          clear hv y1 y2 y3 y4
          go_wp2_with (first
            | (go_at_call 92; refine (HS2.out _).mono ?_; rintro e w' ⟨rfl, rfl⟩)
            | (at_builtin; refine wpList_append_sl rfl (.tmp 45) (.tmp 52) 25 rfl 32 (.agg #[.int .u8 0, .int .u64 0, .int .u64 0]) 3 24 rfl (by omega) Try.underlying25 info_instr (by omega) A k c (pcells (flushP off k)) ⟨wr.heap.size, 0, none⟩ 1 1 [.int .u8 2, .int .u64 v, .int .u64 0] rfl rfl (HS.out.keep (fun b hb => Below.heap_alloc _ _ b (HS.out.lt hb))) rfl (by omega) (cells_three wr 32 _ _ _) (ins_one _ _ _) (by omega) ?_; intro A2 c2 w2 HO2 HC2 HW2 HN2))
          refine ⟨⟨k + 1, A2, c2, by omega, by go_num, rfl, ?_, ?_, ?_⟩, by simp [intOf]; omega⟩
          · have e1 : pcells (flushP off (k + 1)) = pcells (flushP off k) ++ [.int .u8 2, .int .u64 v, .int .u64 0] := by
              rw [flushP_succ, pcells_append, HO.out.2, HV.out]; rfl
            rw [e1]; exact HO2.out
          · exact bl_ch (bl_alloc HB.out _) HC2.out (fun b hb => HOO.out b hb)
          · intro b hb
            rcases HW2.out b hb with h | h
            · exact HOO.out b h
            · rw [h]; have := HB.out.size; simp; omega
        · obtain rfl : k = m := by omega
          go_wp2_with (first
            | (at_builtin; refine wpList_append_sl rfl (.tmp 55) (.tmp 57) 25 rfl 32 (.agg #[.int .u8 0, .int .u64 0, .int .u64 0]) 3 24 rfl (by omega) Try.underlying25 info_instr (by omega) A k c (pcells (flushP off k)) ⟨wr.heap.size, 0, none⟩ 1 1 [.int .u8 3, .int .u64 0, .int .u64 0] rfl rfl (HS.out.keep (fun b hb => Below.heap_alloc _ _ b (HS.out.lt hb))) rfl (by omega) (cells_three wr 32 _ _ _) (ins_one _ _ _) (by omega) ?_; intro A2 c2 w2 HO2 HC2 HW2 HN2))
          go_ret
          have e1 : (flushP off k ++ [(3, 0, 0)]).length = k + 1 := by simp [length_flushP]
          refine ⟨A2, c2, by rw [e1]; rfl, ?_, ?_, ?_⟩
          · rw [e1, pcells_append]; exact HO2.out
          · exact bl_ch (bl_alloc HB.out _) HC2.out (fun b hb => HOO.out b hb)
          · intro b hb
            rcases HW2.out b hb with h | h
            · exact HOO.out b h
            · rw [h]; have := HB.out.size; simp; omega
end Go.Proofs.Ytngkhligjkcbmaa

namespace Go.Proofs.Ytngkhligjkcbmaa
open Go.RowKit
set_option linter.unusedVariables false

/-- The words of a fresh device. -/
def frW : List Int := (List.range 32).map fun (i : Nat) => ((List.range 8).map fun (b : Nat) => (((8 * i + b) * 256 ^ b : Nat) : Int)).sum
theorem frW_bytes : bytesL frW = (List.range 256).map fun (i : Nat) => (i : Int) := by decide +kernel
theorem frW_fits : Fits frW := by
  intro x hx
  have : frW.all (fun x => decide (0 ≤ x) && decide (x < 18446744073709551616)) = true := by decide +kernel
  have := List.all_eq_true.1 this x hx
  simpa using this
theorem frW_length : frW.length = 32 := by decide +kernel
/-- The bytes so far. -/
def upB (k : Nat) : List Int := (List.range 256).map fun (i : Nat) => if i < k then (i : Int) else 0
theorem upB_zero : upB 0 = List.replicate 256 0 := by decide +kernel
theorem upB_all : upB 256 = bytesL frW := by decide +kernel
theorem length_upB (k : Nat) : (upB k).length = 256 := by simp [upB]
theorem upB_set (k : Nat) (hk : k < 256) : (upB k).set k (k : Int) = upB (k + 1) := by
  apply List.ext_getElem
  · simp [upB]
  · intro i h1 h2
    simp only [List.getElem_set, upB, List.getElem_map, List.getElem_range]
    by_cases hi : k = i
    · subst hi; simp
    · rw [if_neg hi]
      by_cases h3 : i < k
      · rw [if_pos h3, if_pos (by omega)]
      · rw [if_neg h3, if_neg (by omega)]

def FreshPost (w : World) (e : Ending) (w' : World) : Prop :=
  ∃ d L, e = .returned (.pointer (some ⟨d, 0, none⟩)) ∧ Dev w' d L (newS frW 4) ∧ Below w.heap.size w w' ∧ ∀ b, Fp L b → w.heap.size ≤ b
theorem info_u8f : (Try.prog.info? 5).map (fun i => (i.zero, i.size, i.bytes)) = some (some (.int .u8 0), 1, 1) := by kernel_rfl
theorem lines4 {w : World} {d : Nat} {L : Lay} {S : DevS} (h : Dev w d L S) (hn : S.lns.length = 4) : Calls Try.prog 65 #[.pointer (some ⟨d, 0, none⟩)] w fun e w' => e = .returned (.int .i64 4) ∧ w = w' := by
  have := devLines w d L S h
  rw [hn] at this
  exact this
theorem thread0 {w : World} {d : Nat} {L : Lay} {S : DevS} (h : Dev w d L S) : Calls Try.prog 22 #[.pointer (some ⟨d, 0, none⟩), .int .i64 0] w fun e w' => e = .returned (.pointer (some ⟨L.t 0, 0, none⟩)) ∧ w = w' := devThread w d L S h 0 (by omega)
theorem thread1 {w : World} {d : Nat} {L : Lay} {S : DevS} (h : Dev w d L S) : Calls Try.prog 22 #[.pointer (some ⟨d, 0, none⟩), .int .i64 1] w fun e w' => e = .returned (.pointer (some ⟨L.t 1, 0, none⟩)) ∧ w = w' := devThread w d L S h 1 (by omega)
theorem newS_lns (xs : List Int) (n : Nat) : (newS xs n).lns.length = n := by simp [newS]
set_option maxRecDepth 100000 in
set_option maxHeartbeats 2000000 in
theorem fresh_ok (w : World) : Calls Try.prog 20 #[] w (FreshPost w) := by
  have hmk : ∀ W, (Instr.makeSlice 84 (.int .i64 256) (.int .i64 256)).run Try.prog W = .ok (.slice (some ⟨W.heap.size, 0, none⟩) 256 256) (W.alloc (.cells (ia .u8 (upB 0)) 5)) := fun W => by
    rw [upB_zero]
    exact run_make_z (P := Try.prog) 84 5 .u8 .i64 .i64 256 256 (by rfl) Try.underlying84 1 info_u8f (by omega) (by omega) W
  go_enter Try.func20, Try.ntmps20
  go_wp2
  have HI0 : Hid (IB .u8 5 (w.alloc (.cells (ia .u8 (upB 0)) 5)) w.heap.size (upB 0)) := by
    show IB _ _ _ _ _
    exact IB.new _ _
  have HB0 : Hid (Below w.heap.size w (w.alloc (.cells (ia .u8 (upB 0)) 5))) := by show Below _ _ _; (repeat (first | with_reducible exact Below.refl _ _ | with_reducible refine bl_alloc ?_ _ | with_reducible refine bl_drew ?_ | with_reducible refine bl_drewN ?_ _ | with_reducible refine bl_bx ?_ _ | with_reducible exact BX.below _ | with_reducible refine bl_set ?_ (by first | (exact Nat.le_refl _) | (simp; done) | (simp; omega)) _ | assumption))
  obtain ⟨g, hg⟩ : ∃ g, w.heap.size = g := ⟨_, rfl⟩
  obtain ⟨W, hW⟩ : ∃ W, w.alloc (.cells (ia .u8 (upB 0)) 5) = W := ⟨_, rfl⟩
  rw [hg, hW] at HI0
  rw [hW] at HB0
  rw [hg, hW]
  have HG := Lib.hid hg
  clear hW hg hmk
  go_loopw [8, 2, 9, 10, 11, 12, 13, 14, 15, 16] (fun i _ _ _ _ _ _ _ _ _ wr => ∃ k : Nat, k ≤ 256 ∧ i = .int .i64 k ∧ IB .u8 5 wr g (upB k) ∧ Below w.heap.size w wr) (fun i _ _ _ _ _ _ _ _ _ _ => 256 - (intOf i).toNat)
  case atStart => exact ⟨0, by omega, rfl, HI0.out, HB0.out⟩
  case round =>
    clear HI0 HB0
    obtain ⟨k, hk, rfl, hI, hB⟩ := hrel
    have HI := Lib.hid hI
    have HB := Lib.hid hB
    by_cases hlt : k < 256
    · have hlt' : (k : Int) < 256 := by omega
      have hcg : wr.cell? ⟨g, k, none⟩ = some (.int .u8 ((upB k)[k]'(by rw [length_upB]; exact hlt))) := hI.cell _
      have hfz := hI.frozen k
      have hgl := hI.lt
      have hw : IntKind.u8.wrap (k : Int) = (k : Int) := by rw [IntKind.wrap_u8]; omega
      clear hI hB
      go_wp2
      go_roundw
      case rel =>
        refine ⟨k + 1, by omega, by go_num, ?_, bl_set HB.out (by rw [HG.out]; exact Nat.le_refl _) _⟩
        rw [← upB_set k hlt]
        exact HI.out.set k _
      case measure => simp [intOf]; omega
    · obtain rfl : k = 256 := by omega
      have hR : Rd .u8 wr (some ⟨g, 0, none⟩) (bytesL frW) := by
        have := hI.rd 0 256
        rw [List.drop_zero, List.take_of_length_le (by rw [length_upB]; exact Nat.le_refl _), upB_all] at this
        exact this
      have hF := devFrom wr (some ⟨g, 0, none⟩) 4 256 frW (by omega) (by omega) frW_length frW_fits hR
      change Calls Try.prog 64 #[.slice (some ⟨g, 0, none⟩) 256 256] wr _ at hF
      have HF := Lib.hid hF
      clear hI hB hR hF
      go_wp2_with (first
        | (go_at_call 64; refine HF.out.mono ?_; rintro e w2 ⟨d, L, rfl, hD, hb, hf⟩; have HD := Lib.hid hD; have HB2 := Lib.hid hb; have HFP := Lib.hid hf; have HL1 := Lib.hid (lines4 hD (newS_lns _ _)); have HT0 := Lib.hid (thread0 hD); have HT1 := Lib.hid (thread1 hD); clear hD hb hf)
        | (go_at_call 65; refine HL1.out.mono ?_; rintro e w3 ⟨rfl, rfl⟩)
        | (go_at_call 22; first | (with_reducible refine HT0.out.mono ?_; rintro e w3 ⟨rfl, rfl⟩) | (with_reducible refine HT1.out.mono ?_; rintro e w3 ⟨rfl, rfl⟩)))
      go_ret
      refine ⟨d, L, rfl, HD.out, HB.out.trans (HB2.out.mono HB.out.size), fun b hb => Nat.le_trans HB.out.size (HFP.out b hb)⟩
end Go.Proofs.Ytngkhligjkcbmaa
