/- Programs of the memory, sorted words, the crash of a device (merged). -/
import Derived.Test.YtjaohgnloddgfaaGreatDoorKd
import Derived.Test.YtjaohgnloddgfaaGreatDoorStr
import Derived.Test.YtjaohgnloddgfaaGreatDoorCrcB
import Derived.Test.YtjaohgnloddgfaaGreatDoorBytes
import Derived.Deep.Cut
namespace Go.Proofs.YtjaohgnloddgfaaGreatDoor
open Go.RowKit
set_option linter.unusedVariables false

theorem pcells_cons (p : Ins) (ps : List Ins) : pcells (p :: ps) = .int .u8 p.1 :: .int .u64 p.2.1 :: .int .u64 p.2.2 :: pcells ps := by simp [pcells]
theorem pcells_append (ps qs : List Ins) : pcells (ps ++ qs) = pcells ps ++ pcells qs := by simp [pcells]
theorem length_pcells (ps : List Ins) : (pcells ps).length = ps.length * 3 := by
  induction ps with
  | nil => rfl
  | cons p ps ih => rw [pcells_cons, List.length_cons, List.length_cons, List.length_cons, ih, List.length_cons]; omega
theorem pcells_get (ps : List Ins) : ∀ (k : Nat) (h : k < ps.length), (pcells ps)[k * 3]? = some (.int .u8 ps[k].1) ∧ (pcells ps)[k * 3 + 1]? = some (.int .u64 ps[k].2.1) ∧ (pcells ps)[k * 3 + 2]? = some (.int .u64 ps[k].2.2) := by
  induction ps with
  | nil => intro k h; simp at h
  | cons p ps ih =>
    intro k h
    cases k with
    | zero => simp [pcells]
    | succ k =>
      have := ih k (by simpa using h)
      rw [pcells_cons, show (k + 1) * 3 = k * 3 + 1 + 1 + 1 by omega]
      simpa using this
/-- One instruction of a program. -/
theorem Sl.ins {w : World} {A : Option Addr} {m c : Nat} {ps : List Ins} (h : Sl 174 3 w A m c (pcells ps)) {k : Nat} (hk : k < ps.length) :
    ∃ g off, A = some ⟨g, off, none⟩ ∧ g < w.heap.size ∧ w.cell? ⟨g, off + k * 3, none⟩ = some (.int .u8 ps[k].1) ∧ w.cell? ⟨g, off + k * 3 + 1, none⟩ = some (.int .u64 ps[k].2.1) ∧ w.cell? ⟨g, off + k * 3 + 2, none⟩ = some (.int .u64 ps[k].2.2) := by
  obtain ⟨e1, e2, e3⟩ := pcells_get ps k hk
  obtain ⟨g, off, hA, hl, _⟩ := h.at_ (j := k * 3) (by rw [length_pcells]; omega)
  have c1 := h.cells _ hA _ _ e1
  have c2 := h.cells _ hA _ _ e2
  have c3 := h.cells _ hA _ _ e3
  have h1 : ∀ j, (⟨g, off, none⟩ : Addr).add j = ⟨g, off + j, none⟩ := by intro j; unfold Addr.add; split <;> simp_all
  rw [h1] at c1 c2 c3
  exact ⟨g, off, hA, hl, c1, c2, c3⟩
def insB (p : Ins) : Bool := decide (1 ≤ p.1) && decide (p.1 ≤ 3)

set_option maxRecDepth 100000 in
set_option maxHeartbeats 1000000 in
theorem memValid (w : World) (A : Option Addr) (n c : Nat) (ps : List Ins) (hn : ps.length = n) (hm : n ≤ 1000000000) (hS : Sl 174 3 w A n c (pcells ps)) :
    Calls Tryz.prog 104 #[.slice A n c] w fun e w' => e = .returned (.bool (ps.all insB)) ∧ Below w.heap.size w w' := by
  have HN := Lib.hid hn
  have HS := Lib.hid hS
  clear hn hS
  go_enter Tryz.func104, Tryz.ntmps104
  go_wp2
  go_loopw [7, 4, 8, 9, 10, 11, 12, 13, 14, 15, 16, 17, 18, 19] (fun i _ _ _ _ _ _ _ _ _ _ _ _ _ wr => ∃ k : Nat, k ≤ n ∧ i = .int .i64 k ∧ (ps.take k).all insB = true ∧ Below w.heap.size w wr) (fun i _ _ _ _ _ _ _ _ _ _ _ _ _ _ => n - (intOf i).toNat)
  case atStart => exact ⟨0, by omega, rfl, by simp, Below.refl _ _⟩
  case round =>
    obtain ⟨k, hk, rfl, hall, hB⟩ := hrel
    have HA := Lib.hid hall
    have HB := Lib.hid hB
    by_cases hlt : k < n
    · have hkl : k < ps.length := by rw [HN.out]; exact hlt
      obtain ⟨g, off, hA', hl, c1, c2, c3⟩ := (HS.out.keep (fun b hb => hB.block b (HS.out.lt hb))).ins hkl
      obtain ⟨⟨op, of, v⟩, hp⟩ : ∃ p, ps[k] = p := ⟨_, rfl⟩
      rw [hp] at c1 c2 c3
      have HP := Lib.hid hp
      subst hA'
      clear hall hB hp
      have hgn : ¬ g = wr.heap.size := by omega
      by_cases h1 : op < 1
      · have HR : Hid (ps.all insB = false) := all_false insB ps k hkl (by rw [HP.out]; simp [insB]; omega)
        go_wp2
        go_ret
        rw [HR.out]
        exact ⟨rfl, by have := HB.out; (repeat (first | with_reducible exact Below.refl _ _ | with_reducible refine bl_alloc ?_ _ | with_reducible refine bl_drew ?_ | with_reducible refine bl_drewN ?_ _ | with_reducible refine bl_bx ?_ _ | with_reducible exact BX.below _ | with_reducible refine bl_set ?_ (by first | (exact Nat.le_refl _) | (simp; done) | (simp; omega)) _ | assumption))⟩
      · by_cases h3 : 3 < op
        · have HR : Hid (ps.all insB = false) := all_false insB ps k hkl (by rw [HP.out]; simp [insB]; omega)
          go_wp2
          go_ret
          rw [HR.out]
          exact ⟨rfl, by have := HB.out; (repeat (first | with_reducible exact Below.refl _ _ | with_reducible refine bl_alloc ?_ _ | with_reducible refine bl_drew ?_ | with_reducible refine bl_drewN ?_ _ | with_reducible refine bl_bx ?_ _ | with_reducible exact BX.below _ | with_reducible refine bl_set ?_ (by first | (exact Nat.le_refl _) | (simp; done) | (simp; omega)) _ | assumption))⟩
        · go_wp2
          go_roundw
          case rel => exact ⟨k + 1, by omega, by go_num, all_take_succ insB ps k hkl HA.out (by rw [HP.out]; simp [insB]; omega), by have := HB.out; (repeat (first | with_reducible exact Below.refl _ _ | with_reducible refine bl_alloc ?_ _ | with_reducible refine bl_drew ?_ | with_reducible refine bl_drewN ?_ _ | with_reducible refine bl_bx ?_ _ | with_reducible exact BX.below _ | with_reducible refine bl_set ?_ (by first | (exact Nat.le_refl _) | (simp; done) | (simp; omega)) _ | assumption))⟩
          case measure => simp [intOf]; omega
    · clear hall hB
      have HR : Hid (ps.all insB = true) := all_take_all insB ps k (by rw [HN.out]; exact hlt) HA.out
      go_wp2
      go_ret
      rw [HR.out]
      exact ⟨rfl, HB.out⟩

/-- What Run leaves. -/
def RunPost (F : Nat → Prop) (d : Nat) (t : Nat → Nat) (i : Nat) (S : DevS) (ps : List Ins) (w : World) (e : Ending) (w' : World) : Prop :=
  e = .returned (.int .i64 ((S.runP i ps).thr i).err) ∧ DV F d t w' (S.runP i ps) ∧ Ch F w w'

set_option maxRecDepth 100000 in
set_option maxHeartbeats 2000000 in
theorem memRun {F : Nat → Prop} {d : Nat} {t : Nat → Nat} (w : World) {S : DevS} {N : Nat} (h : DV F d t w S) (i : Nat) (hi : i < 8) (hG : Good S N) (A : Option Addr) (n c : Nat) (ps : List Ins) (hn : ps.length = n) (hS : Sl 174 3 w A n c (pcells ps)) (hA : ∀ b, OwnB A b → ¬ F b)
    (hN : N + n < 1000000) (hps : ∀ p ∈ ps, insB p = true ∧ 0 ≤ p.2.1 ∧ p.2.1 < 18446744073709551616) :
    Calls Tryz.prog 77 #[.slice A n c, .iface 57 (.pointer (some ⟨t i, 0, none⟩))] w (RunPost F d t i S ps w) := by
  have H := Lib.hid h
  have HG := Lib.hid hG
  have HNN := Lib.hid hn
  have HS := Lib.hid hS
  have HA := Lib.hid hA
  have HPS := Lib.hid hps
  have HV : Hid (Calls Tryz.prog 104 #[.slice A n c] w fun e w' => e = .returned (.bool true) ∧ Below w.heap.size w w') := by
    have := memValid w A n c ps hn (by omega) hS
    rwa [show ps.all insB = true from List.all_eq_true.2 fun p hp => (hps p hp).1] at this
  clear h hG hn hS hA hps
  go_enter Tryz.func77, Tryz.ntmps77
  go_wp2_with (first | (go_at_call 104; refine HV.out.mono ?_; rintro e w1 ⟨rfl, hb⟩; obtain ⟨x, rfl⟩ := bx_of hb; clear hb))
  have HI0 : Hid (DV F d t x.w S ∧ Ch F w x.w) := ⟨H.out.bx x, Ch.of_below x.below⟩
  obtain ⟨w1, hw1⟩ : ∃ w1, x.w = w1 := ⟨_, rfl⟩
  rw [hw1] at HI0 ⊢
  clear hw1 HV
  go_loopw [16, 6, 17, 18, 19, 20, 21, 22, 23] (fun i' _ _ _ _ _ _ _ _ wr => ∃ k : Nat, k ≤ n ∧ i' = .int .i64 k ∧ DV F d t wr (S.runP i (ps.take k)) ∧ Ch F w wr) (fun i' _ _ _ _ _ _ _ _ _ => n - (intOf i').toNat)
  case atStart => exact ⟨0, by omega, rfl, HI0.out.1, HI0.out.2⟩
  case round =>
    obtain ⟨k, hk, rfl, hD, hC⟩ := hrel
    have HD := Lib.hid hD
    have HC := Lib.hid hC
    by_cases hlt : k < n
    · have hkl : k < ps.length := by rw [HNN.out]; exact hlt
      obtain ⟨g, off, hA', hl, c1, c2, c3⟩ := (HS.out.ch hC HA.out).ins hkl
      obtain ⟨⟨op, of, v⟩, hp⟩ : ∃ p, ps[k] = p := ⟨_, rfl⟩
      rw [hp] at c1 c2 c3
      have hpp := HPS.out _ (List.getElem_mem hkl)
      rw [hp] at hpp
      have HP := Lib.hid hp
      have hgF : ¬ F g := HA.out g (by rw [hA']; simp [OwnB])
      subst hA'
      have HGk : Hid (Good (S.runP i (ps.take k)) (N + k)) := by
        have := Good.runP hi (ps.take k) HG.out (fun p hp => (HPS.out p (List.mem_of_mem_take hp)).2.1) (by rw [List.length_take]; omega)
        rwa [List.length_take, Nat.min_eq_left (by omega)] at this
      have hop : 1 ≤ op ∧ op ≤ 3 := by have := hpp.1; simpa [insB] using this
      have HOF := Lib.hid hpp.2
      have hgn : ¬ g = wr.heap.size := by omega
      clear hD hC hp hpp
      go_wp2_with (first | (go_at_call 105; refine (memExec _ (HD.out.below (by (repeat (first | with_reducible exact Below.refl _ _ | with_reducible refine bl_alloc ?_ _ | with_reducible refine bl_drew ?_ | with_reducible refine bl_drewN ?_ _ | with_reducible refine bl_bx ?_ _ | with_reducible exact BX.below _ | with_reducible refine bl_set ?_ (by first | (exact Nat.le_refl _) | (simp; done) | (simp; omega)) _ | assumption)))) i hi HGk.out (by omega) op of v HOF.out hop).mono ?_; rintro e w2 ⟨rfl, hD2, hC2⟩; have HD2 := Lib.hid hD2; have HC2 := Lib.hid hC2; clear hD2 hC2))
      go_roundw
      case rel =>
        refine ⟨k + 1, by omega, by go_num, ?_, (HC.out.alloc _).trans HC2.out (fun _ h _ => h)⟩
        rw [List.take_succ_eq_append_getElem hkl, runP_snoc, HP.out]
        exact HD2.out
      case measure => simp [intOf]; omega
    · obtain rfl : k = n := by omega
      clear hD hC
      have hE : ps.take k = ps := List.take_of_length_le (by rw [HNN.out]; omega)
      rw [hE] at HD
      have HER : Hid (Calls Tryz.prog 57 #[.pointer (some ⟨t i, 0, none⟩)] wr fun e w' => e = .returned (.int .i64 ((S.runP i ps).thr i).err) ∧ wr = w') := by
        obtain ⟨_, L, rfl, h3, _⟩ := HD.out
        exact thErr wr d L _ h3 i hi
      clear hE
      go_wp2_with (first | (go_at_call 57; refine HER.out.mono ?_; rintro e w2 ⟨rfl, rfl⟩))
      go_ret
      exact ⟨rfl, HD.out, HC.out⟩
end Go.Proofs.YtjaohgnloddgfaaGreatDoor

namespace Go.Proofs.YtjaohgnloddgfaaGreatDoor
open Go.RowKit
set_option linter.unusedVariables false

theorem q_same {P : Program} {f : FuncId} {args : Array Value} {w : World} {n : Nat} {v : Value} (h : Calls P f args (w.drewN n) fun e w' => e = .returned v ∧ w.drewN n = w') : Calls P f args (w.drewN n) fun e w'' => e = .returned v ∧ ∃ m, w'' = w.drewN m :=
  h.mono fun _ _ ⟨he, hm⟩ => ⟨he, n, hm.symm⟩
theorem isNaNU (w : World) (x : Int) : Calls Tryz.prog 91 #[.int .u64 x] w fun e w' => e = .returned (.bool false) ∧ w = w' := by
  have h : (x != x) = false := by simp
  go_enter Tryz.func91, Tryz.ntmps91
  go_wp2
  go_ret
  exact ⟨rfl, rfl⟩
set_option maxRecDepth 100000 in
theorem lessU (w : World) (x y : Int) : Calls Tryz.prog 141 #[.int .u64 x, .int .u64 y] w fun e w' => e = .returned (.bool (decide (x < y))) ∧ w = w' := by
  go_enter Tryz.func141, Tryz.ntmps141
  go_wp2_with (go_at_call 91; refine (isNaNU _ _).mono ?_; rintro e w' ⟨rfl, rfl⟩)
  go_ret
  exact ⟨rfl, rfl⟩

set_option maxRecDepth 100000 in
set_option maxHeartbeats 1000000 in
theorem insU (w : World) (A : Option Addr) (n c : Nat) (xs : List Int) (hn : xs.length = n) (h1 : 1 ≤ n) (hm : n ≤ 1000) (hR : Rd .u64 w A xs) (hs : xs.Pairwise (· ≤ ·)) :
    Calls Tryz.prog 135 #[.slice A n c, .int .i64 0, .int .i64 (n : Int)] w fun e w' => e = .returned (.tuple #[]) ∧ ∃ m, w' = w.drewN m := by
  have HN := Lib.hid hn
  have HR := Lib.hid hR
  have HS := Lib.hid hs
  clear hn hR hs
  go_enter Tryz.func135, Tryz.ntmps135
  go_wp2
  go_loopw [6, 7, 10, 11, 12, 13, 14, 15, 16, 17, 18, 19, 20, 21, 22, 23, 24, 25, 26, 27, 28, 29, 30, 31, 32, 33, 34, 35, 36, 37, 38, 39, 40, 41, 42, 43, 44, 45, 46, 47, 48] (fun i _ _ _ _ _ _ _ _ _ _ _ _ _ _ _ _ _ _ _ _ _ _ _ _ _ _ _ _ _ _ _ _ _ _ _ _ _ _ _ _ wr => ∃ k m : Nat, 1 ≤ k ∧ k ≤ n ∧ i = .int .i64 k ∧ wr = w.drewN m) (fun i _ _ _ _ _ _ _ _ _ _ _ _ _ _ _ _ _ _ _ _ _ _ _ _ _ _ _ _ _ _ _ _ _ _ _ _ _ _ _ _ _ => n - (intOf i).toNat)
  case atStart => exact ⟨1, 0, by omega, by omega, rfl, rfl⟩
  case round =>
    obtain ⟨k, m, hk1, hk, rfl, rfl⟩ := hrel
    by_cases hlt : k < n
    · obtain ⟨j, rfl⟩ : ∃ j, k = j + 1 := ⟨k - 1, by omega⟩
      have hkl : j + 1 < xs.length := by rw [HN.out]; exact hlt
      obtain ⟨g, off, hA, hl, c1⟩ := HR.out.at_ hkl
      obtain ⟨g', off', hA', _, c0⟩ := HR.out.at_ (i := j) (by omega)
      rw [hA] at hA'
      injection hA' with hA'
      injection hA' with hA' hA''
      subst hA hA' hA''
      have hle := List.pairwise_iff_getElem.1 HS.out j (j + 1) (by omega) hkl (by omega)
      have hd : decide (xs[j + 1] < xs[j]) = false := by simp; omega
      have hd0 : decide ((j : Int) + 1 > 0) = true := decide_eq_true (by omega)
      have hd1 : decide (0 < (j : Int) + 1) = true := decide_eq_true (by omega)
      have q1 : ((j + 1 : Nat) : Int) = (j : Int) + 1 := by omega
      have q2 : (j : Int) + 1 - 1 = (j : Int) := by omega
      have q3 : IntKind.i64.wrap ((j : Int) + 1 - 1) = (j : Int) := by rw [q2]; exact IntWalk.i64_in _ (by omega)
      have q4 : ((j : Int) + 1).toNat = j + 1 := by omega
      clear hle
      obtain ⟨W, hW⟩ : ∃ W, w.drewN m = W := ⟨_, rfl⟩
      have c0' : W.cell? ⟨g, off + j, none⟩ = some (.int .u64 xs[j]) := by rw [← hW]; exact c0
      have c1' : W.cell? ⟨g, off + (j + 1), none⟩ = some (.int .u64 xs[j + 1]) := by rw [← hW]; exact c1
      have hl' : g < W.heap.size := by rw [← hW]; exact hl
      rw [hW]
      have HW := Lib.hid hW
      clear hW
      rw [q1]
      go_wp2
      refine wp_loop_rounds 1 ?_
      rw [rounds_succ]
      go_wp2
      refine wp_region_quiet_lit (by kernel_rfl) (by kernel_rfl) ?_
      repeat (go_big_quiet_step ((go_at_call 141; exact q_same (lessU _ _ _))))
      refine wpQuiet_nil ?_
      rintro _ ⟨nq, rfl⟩
      go_wp2
      exact ⟨⟨j + 2, m + nq, by omega, by omega, by go_num, by rw [← HW.out, World.drewN_drewN]⟩, by simp [intOf]; omega⟩
    · go_wp2
      go_end0
      exact ⟨rfl, m, rfl⟩

set_option maxRecDepth 100000 in
set_option maxHeartbeats 1000000 in
theorem pdqU (w : World) (A : Option Addr) (n c : Nat) (xs : List Int) (lim : Int) (hn : xs.length = n) (h1 : 1 ≤ n) (hm : n ≤ 12) (hR : Rd .u64 w A xs) (hs : xs.Pairwise (· ≤ ·)) :
    Calls Tryz.prog 126 #[.slice A n c, .int .i64 0, .int .i64 (n : Int), .int .i64 lim] w fun e w' => e = .returned (.tuple #[]) ∧ ∃ m, w' = w.drewN m := by
  have HI := Lib.hid (insU w A n c xs hn h1 (by omega) hR hs)
  have h12 : (n : Int) ≤ 12 := by omega
  clear hn hR hs
  go_enter Tryz.func126, Tryz.ntmps126
  go_wp2
  refine wp_loop_rounds 1 ?_
  rw [rounds_succ]
  go_wp2_with (go_at_call 135; refine HI.out.mono ?_; rintro e w' ⟨rfl, m, rfl⟩)
  exact bodyPost_ret (v := .tuple #[]) (by simp [results, Tryz.results126, go_sem]) rfl ⟨rfl, m, rfl⟩

/-- Some number. -/
def SomeI (w : World) (e : Ending) (w' : World) : Prop := ∃ z : Int, e = .returned (.int .i64 z) ∧ w = w'
set_option maxRecDepth 100000 in
set_option maxHeartbeats 1000000 in
theorem bitsLen64 (w : World) (n : Nat) (hm : n ≤ 12) : Calls Tryz.prog 120 #[.int .u64 (n : Int)] w (SomeI w) := by
  have e1 : ¬ (4294967296 : Int) ≤ (n : Int) := by omega
  have e2 : ¬ (65536 : Int) ≤ (n : Int) := by omega
  have e3 : ¬ (256 : Int) ≤ (n : Int) := by omega
  have e4 : IntKind.u8.wrap (n : Int) = (n : Int) := by rw [IntKind.wrap_u8]; omega
  go_enter Tryz.func120, Tryz.ntmps120
  go_wp2
  go_ret
  exact ⟨_, rfl, rfl⟩
set_option maxRecDepth 100000 in
set_option maxHeartbeats 1000000 in
theorem bitsLen (w : World) (n : Nat) (hm : n ≤ 12) : Calls Tryz.prog 90 #[.int .u64 (n : Int)] w (SomeI w) := by
  have HI := Lib.hid (fun w => bitsLen64 w n hm)
  go_enter Tryz.func90, Tryz.ntmps90
  go_wp2_with (go_at_call 120; refine (HI.out _).mono ?_; rintro e w' ⟨z, rfl, rfl⟩)
  go_ret
  exact ⟨_, rfl, rfl⟩
set_option maxRecDepth 100000 in
set_option maxHeartbeats 1000000 in
theorem sortU (w : World) (A : Option Addr) (n c : Nat) (xs : List Int) (hn : xs.length = n) (h1 : 1 ≤ n) (hm : n ≤ 12) (hR : Rd .u64 w A xs) (hs : xs.Pairwise (· ≤ ·)) :
    Calls Tryz.prog 102 #[.slice A n c] w fun e w' => e = .returned (.tuple #[]) ∧ ∃ m, w' = w.drewN m := by
  have HI := Lib.hid (fun z => pdqU w A n c xs z hn h1 hm hR hs)
  have hw : IntKind.u64.wrap (n : Int) = (n : Int) := IntWalk.u64_in _ (by omega)
  clear hn hR hs
  go_enter Tryz.func102, Tryz.ntmps102
  go_wp2_with (first | (go_at_call 90; refine (bitsLen _ n hm).mono ?_; rintro e w' ⟨z, rfl, rfl⟩) | (go_at_call 126; refine (HI.out z).mono ?_; rintro e w' ⟨rfl, m, rfl⟩))
  go_end0
  exact ⟨rfl, m, rfl⟩
end Go.Proofs.YtjaohgnloddgfaaGreatDoor

namespace Go.Proofs.YtjaohgnloddgfaaGreatDoor
open Go.RowKit
set_option linter.unusedVariables false

/-- Without repetitions of neighbours. -/
def cpt (xs : List Int) : List Int := xs.foldl (fun acc x => if acc.getLast? = some x then acc else acc ++ [x]) []
theorem cpt_snoc (xs : List Int) (x : Int) : cpt (xs ++ [x]) = if (cpt xs).getLast? = some x then cpt xs else cpt xs ++ [x] := by
  unfold cpt; rw [List.foldl_append]; rfl
theorem cpt_last (xs : List Int) : ∀ k, (cpt (xs.take k)).getLast? = (xs.take k).getLast? := by
  intro k
  induction k with
  | zero => simp [cpt]
  | succ k ih =>
    by_cases hk : k < xs.length
    · rw [List.take_succ_eq_append_getElem hk, cpt_snoc]
      split
      · rename_i h; rw [h]; simp [-List.take_append_getElem]
      · simp [-List.take_append_getElem]
    · rw [List.take_of_length_le (by omega)]
      rw [List.take_of_length_le (by omega)] at ih
      exact ih
theorem take_last (xs : List Int) (k : Nat) (hk : k < xs.length) : (xs.take (k + 1)).getLast? = some xs[k] := by
  rw [List.take_succ_eq_append_getElem hk]; simp [-List.take_append_getElem]
theorem cpt_eq (xs : List Int) (k : Nat) (hk : k + 1 < xs.length) (h : xs[k + 1] = xs[k]) : cpt (xs.take (k + 2)) = cpt (xs.take (k + 1)) := by
  rw [List.take_succ_eq_append_getElem hk, cpt_snoc, cpt_last, take_last xs k (by omega), h, if_pos rfl]
theorem cpt_ne (xs : List Int) (k : Nat) (hk : k + 1 < xs.length) (h : xs[k + 1] ≠ xs[k]) : cpt (xs.take (k + 2)) = cpt (xs.take (k + 1)) ++ [xs[k + 1]] := by
  rw [List.take_succ_eq_append_getElem hk, cpt_snoc, cpt_last, take_last xs k (by omega), if_neg (fun h' => h (by injection h' with h'; exact h'.symm))]
theorem cpt_one (xs : List Int) : cpt (xs.take 1) = xs.take 1 := by
  cases xs with
  | nil => simp [cpt]
  | cons x xs => simp [cpt]
theorem cpt_all (xs : List Int) : cpt (xs.take xs.length) = cpt xs := by rw [List.take_length]

/-- What Compact leaves. -/
def CptPost (w : World) (g n c : Nat) (xs : List Int) (e : Ending) (w' : World) : Prop :=
  ∃ zs, e = .returned (.slice (some ⟨g, 0, none⟩) (cpt xs).length c) ∧ IB .u64 23 w' g zs ∧ zs.take (cpt xs).length = cpt xs ∧ Ch (At g) w w'
/-- The inner loop's invariant: p words are read, k are kept. -/
def CptIn (w : World) (g n : Nat) (xs : List Int) (p k : Nat) (wr : World) : Prop :=
  ∃ ys : List Int, IB .u64 23 wr g ys ∧ ys.length = n ∧ ys.take k = cpt (xs.take p) ∧ k = (cpt (xs.take p)).length ∧ k + 1 ≤ p ∧ (∀ j, p ≤ j + 1 → ys[j]? = xs[j]?) ∧ Ch (At g) w wr

theorem CptIn.keep {w wr : World} {g n p k : Nat} {xs : List Int} (h : CptIn w g n xs p k wr) (nq : Nat) : CptIn w g n xs p k (wr.drewN nq) := by
  obtain ⟨ys, h1, h2, h3, h4, h5, h6, h7⟩ := h
  exact ⟨ys, h1.drewN nq, h2, h3, h4, h5, h6, h7.drewN nq⟩
theorem CptIn.skip {w wr : World} {g n p k : Nat} {xs : List Int} (h : CptIn w g n xs (p + 1) k wr) (hx : xs.length = n) (hp : p + 1 < n) (he : xs[p + 1]? = xs[p]?) : CptIn w g n xs (p + 2) k wr := by
  obtain ⟨ys, h1, h2, h3, h4, h5, h6, h7⟩ := h
  have e : cpt (xs.take (p + 2)) = cpt (xs.take (p + 1)) := cpt_eq xs p (by omega) (by
    rw [List.getElem?_eq_getElem (by omega), List.getElem?_eq_getElem (by omega)] at he
    injection he)
  exact ⟨ys, h1, h2, by rw [e]; exact h3, by rw [e]; exact h4, by omega, fun j hj => h6 j (by omega), h7⟩
theorem CptIn.take {w wr : World} {g n p k : Nat} {xs : List Int} (h : CptIn w g n xs (p + 1) k wr) (hx : xs.length = n) (hp : p + 1 < n) (v : Int) (hv : xs[p + 1]? = some v) (he : xs[p + 1]? ≠ xs[p]?) :
    CptIn w g n xs (p + 2) (k + 1) (wr.setCell ⟨g, k, none⟩ (.int .u64 v)) := by
  obtain ⟨ys, h1, h2, h3, h4, h5, h6, h7⟩ := h
  have hv' : xs[p + 1]'(by omega) = v := by rw [List.getElem?_eq_getElem (by omega)] at hv; injection hv
  have e : cpt (xs.take (p + 2)) = cpt (xs.take (p + 1)) ++ [v] := by
    rw [cpt_ne xs p (by omega) (fun h => he (by rw [List.getElem?_eq_getElem (by omega), List.getElem?_eq_getElem (by omega), h])), hv']
  have hk : k < ys.length := by omega
  refine ⟨ys.set k v, h1.set k v, by simpa using h2, ?_, by rw [e]; simp; omega, by omega, fun j hj => ?_, h7.set1 k _⟩
  · rw [e, List.take_succ_eq_append_getElem (by simpa using hk), List.take_set_of_le (Nat.le_refl k), h3]
    simp
  · rw [List.getElem?_set, if_neg (by omega)]
    exact h6 j (by omega)

set_option maxRecDepth 100000 in
set_option maxHeartbeats 4000000 in
theorem compactU (w : World) (g n : Nat) (xs : List Int) (hn : xs.length = n) (h1 : 1 ≤ n) (hm : n ≤ 1000000) (hI : IB .u64 23 w g xs) :
    Calls Tryz.prog 103 #[.slice (some ⟨g, 0, none⟩) n n] w (CptPost w g n n xs) := by
  have HN := Lib.hid hn
  have HI := Lib.hid hI
  have hgl := hI.lt
  clear hn hI
  by_cases h2 : n < 2
  · obtain rfl : n = 1 := by omega
    have HC : Hid (cpt xs = xs) := by
      have := cpt_one xs
      rwa [List.take_of_length_le (by rw [HN.out]; omega)] at this
    go_enter Tryz.func103, Tryz.ntmps103
    go_wp2
    go_ret
    refine ⟨xs, ?_, HI.out, ?_, Ch.refl _ _⟩
    · rw [HC.out, HN.out]; rfl
    · rw [HC.out, List.take_length]
  · have h2' : ¬ (n : Int) < 2 := by omega
    go_enter Tryz.func103, Tryz.ntmps103
    go_wp2
    go_loopw [3, 4, 5, 10, 11, 12, 13, 14, 15, 16, 17, 18, 19, 20, 21, 22, 23, 24, 25, 26, 27, 28, 29, 30, 31, 32, 33, 34, 35, 36, 37, 38, 39, 40, 41, 42, 43, 44, 45, 46, 47, 48, 49, 50, 51, 52, 53, 54, 55, 56, 57, 58, 59, 2] (fun i _ _ _ _ _ _ _ _ _ _ _ _ _ _ _ _ _ _ _ _ _ _ _ _ _ _ _ _ _ _ _ _ _ _ _ _ _ _ _ _ _ _ _ _ _ _ _ _ _ _ _ _ _ wr => ∃ k m : Nat, 1 ≤ k ∧ k ≤ n ∧ i = .int .i64 k ∧ cpt (xs.take k) = xs.take k ∧ wr = w.drewN m) (fun i _ _ _ _ _ _ _ _ _ _ _ _ _ _ _ _ _ _ _ _ _ _ _ _ _ _ _ _ _ _ _ _ _ _ _ _ _ _ _ _ _ _ _ _ _ _ _ _ _ _ _ _ _ _ => n - (intOf i).toNat)
    case atStart => exact ⟨1, 0, by omega, by omega, rfl, cpt_one xs, rfl⟩
    case round =>
      obtain ⟨k, m, hk1, hk, rfl, hcp, rfl⟩ := hrel
      have HCP := Lib.hid hcp
      clear hcp
      by_cases hlt : k < n
      · obtain ⟨j, rfl⟩ : ∃ j, k = j + 1 := ⟨k - 1, by omega⟩
        obtain ⟨x1, hx1⟩ : ∃ x, xs[j + 1]? = some x := ⟨xs[j + 1]'(by rw [HN.out]; exact hlt), List.getElem?_eq_getElem _⟩
        obtain ⟨x0, hx0⟩ : ∃ x, xs[j]? = some x := ⟨xs[j]'(by rw [HN.out]; omega), List.getElem?_eq_getElem _⟩
        obtain ⟨W, hW⟩ : ∃ W, w.drewN m = W := ⟨_, rfl⟩
        have HIW : Hid (IB .u64 23 W g xs) := by show IB _ _ _ _ _; rw [← hW]; exact HI.out.drewN m
        have HBW : Hid (Ch (At g) w W) := by show Ch _ _ _; rw [← hW]; exact (Ch.refl _ _).drewN m
        have c0 : W.cell? ⟨g, j, none⟩ = some (.int .u64 x0) := by
          rw [HIW.out.cell (by rw [HN.out]; omega)]
          rw [List.getElem?_eq_getElem (by rw [HN.out]; omega)] at hx0
          injection hx0 with hx0
          rw [hx0]
        have c1 : W.cell? ⟨g, j + 1, none⟩ = some (.int .u64 x1) := by
          rw [HIW.out.cell (by rw [HN.out]; omega)]
          rw [List.getElem?_eq_getElem (by rw [HN.out]; omega)] at hx1
          injection hx1 with hx1
          rw [hx1]
        have hgW : g < W.heap.size := HIW.out.lt
        have q1 : ((j + 1 : Nat) : Int) = (j : Int) + 1 := by omega
        have q2 : (j : Int) + 1 - 1 = (j : Int) := by omega
        have q3 : IntKind.i64.wrap ((j : Int) + 1 - 1) = (j : Int) := by rw [q2]; exact IntWalk.i64_in _ (by omega)
        have q4 : ((j : Int) + 1).toNat = j + 1 := by omega
        have HX1 := Lib.hid hx1
        have HX0 := Lib.hid hx0
        have hlt' : (j : Int) + 1 < (n : Int) := by omega
        rw [hW]
        have HW := Lib.hid hW
        clear hW hx1 hx0
        rw [q1]
        by_cases he : x1 = x0
        · subst he
          have he' : (x1 == x1) = true := by simp
          have HI0 : Hid (CptIn w g n xs (j + 2) (j + 1) W) := by
            show CptIn _ _ _ _ _ _ _
            have hlj : j + 1 < xs.length := by rw [HN.out]; exact hlt
            have e : cpt (xs.take (j + 2)) = xs.take (j + 1) := by
              rw [cpt_eq xs j hlj (by
                have a := HX1.out; have b := HX0.out
                rw [List.getElem?_eq_getElem (by omega)] at a b
                injection a with a; injection b with b; rw [a, b])]
              exact HCP.out
            exact ⟨xs, HIW.out, HN.out, by rw [e], by rw [e, List.length_take]; omega, by omega, fun _ _ => rfl, HBW.out⟩
          go_upto_region 6 with (fail)
          go_quiet (fail)
          go_wp2
          have HI1 := Lib.hid (HI0.out.keep nq)
          clear HI0 c0 c1 HIW HBW HX1 HX0 HW he' hgW q1 q2 q3 q4
          obtain ⟨W1, hW1⟩ : ∃ W1, W.drewN nq = W1 := ⟨_, rfl⟩
          rw [hW1] at HI1 ⊢
          clear hW1
          go_loopw [5, 3, 29, 30, 31, 32, 33, 34, 35, 36, 37, 38, 39, 40, 41, 42, 43, 44, 45, 46, 47, 48, 49, 50, 51, 52, 53] (fun a b _ _ _ _ _ _ _ _ _ _ _ _ _ _ _ _ _ _ _ _ _ _ _ _ _ wr => ∃ k2 kk : Nat, 1 ≤ k2 ∧ j + 1 + k2 ≤ n ∧ a = .int .i64 k2 ∧ b = .int .i64 kk ∧ CptIn w g n xs (j + 1 + k2) kk wr) (fun a _ _ _ _ _ _ _ _ _ _ _ _ _ _ _ _ _ _ _ _ _ _ _ _ _ _ _ => n - (intOf a).toNat)
          case atStart => exact ⟨1, j + 1, by omega, by omega, rfl, by go_num, HI1.out⟩
          case round =>
            obtain ⟨k2, kk, hk2, hk3, rfl, rfl, hIn⟩ := hrel
            have HIn := Lib.hid hIn
            obtain ⟨ys, hI2, hyl, htk, hkl, hkp, hint, hCh⟩ := hIn
            have hgr := hI2.lt
            obtain ⟨e, rfl⟩ : ∃ e, k2 = e + 1 := ⟨k2 - 1, by omega⟩
            have q1 : ((e + 1 : Nat) : Int) = (e : Int) + 1 := by omega
            have q2 : (e : Int) + 1 - 1 = (e : Int) := by omega
            have q3 : IntKind.i64.wrap ((e : Int) + 1 - 1) = (e : Int) := by rw [q2]; exact IntWalk.i64_in _ (by omega)
            have q4 : ((e : Int) + 1).toNat = e + 1 := by omega
            by_cases hl2 : j + 1 + (e + 1) < n
            · have hl2' : (e : Int) + 1 < ((n - (j + 1) : Nat) : Int) := by omega
              have hl3 : e + 1 < n - (j + 1) := by omega
              have hl4 : e < n - (j + 1) := by omega
              obtain ⟨y1, hy1⟩ : ∃ x, xs[j + 1 + (e + 1)]? = some x := ⟨xs[j + 1 + (e + 1)]'(by rw [HN.out]; exact hl2), List.getElem?_eq_getElem _⟩
              obtain ⟨y0, hy0⟩ : ∃ x, xs[j + 1 + e]? = some x := ⟨xs[j + 1 + e]'(by rw [HN.out]; omega), List.getElem?_eq_getElem _⟩
              have c1 : wr.cell? ⟨g, j + 1 + (e + 1), none⟩ = some (.int .u64 y1) := by
                have := hint (j + 1 + (e + 1)) (by omega)
                rw [hy1, List.getElem?_eq_getElem (by omega)] at this
                rw [hI2.cell (by omega)]; injection this with this; rw [this]
              have c0 : wr.cell? ⟨g, j + 1 + e, none⟩ = some (.int .u64 y0) := by
                have := hint (j + 1 + e) (by omega)
                rw [hy0, List.getElem?_eq_getElem (by omega)] at this
                rw [hI2.cell (by omega)]; injection this with this; rw [this]
              obtain ⟨yk, ck⟩ : ∃ v, wr.cell? ⟨g, kk, none⟩ = some v := ⟨_, hI2.cell (by omega)⟩
              have fk := hI2.frozen kk
              have hkn : kk < n := by omega
              have HY1 := Lib.hid hy1
              have HY0 := Lib.hid hy0
              rw [q1]
              clear hint htk hkl hI2 hyl hCh hkp hy1 hy0
              by_cases hne : y1 = y0
              · subst hne
                have hb : (y1 != y1) = false := by simp
                go_upto_region 11 with (fail)
                go_quiet (fail)
                go_wp2
                refine ⟨⟨e + 2, kk, by omega, by omega, by go_num, rfl, ?_⟩, by simp [intOf]; omega⟩
                have := (HIn.out.keep nq).skip (p := j + 1 + e) HN.out hl2 (HY1.out.trans HY0.out.symm)
                exact this
              · have hb : (y1 != y0) = true := by simpa using hne
                go_upto_region 11 with (fail)
                go_quiet (fail)
                go_wp2
                refine ⟨⟨e + 2, kk + 1, by omega, by omega, by go_num, by go_num, ?_⟩, by simp [intOf]; omega⟩
                have := (HIn.out.keep nq).take (p := j + 1 + e) HN.out hl2 y1 HY1.out (by rw [show j + 1 + e + 1 = j + 1 + (e + 1) by omega, HY1.out, HY0.out]; simpa using hne)
                exact this
            · obtain rfl : n = j + 1 + (e + 1) := by omega
              have hl2' : ¬ (e : Int) + 1 < ((j + 1 + (e + 1) - (j + 1) : Nat) : Int) := by omega
              have hkn : kk < j + 1 + (e + 1) := by omega
              have hkn' : ¬ ((j + 1 + (e + 1) : Nat) : Int) < (kk : Int) := by omega
              have hkn2 : ¬ j + 1 + (e + 1) < kk := by omega
              have hkn3 : ¬ j + 1 + (e + 1) = kk := by omega
              obtain ⟨w2, hr2, hI3, hC3⟩ := run_clear_ints (P := Tryz.prog) wr 28 0 23 .u64 23 Tryz.underlying28 (by kernel_rfl) g kk (j + 1 + (e + 1) - kk) (j + 1 + (e + 1) - kk) ys hI2 (by omega) (by omega)
              have HR2 := Lib.hid hr2
              have HI3 := Lib.hid hI3
              have HC3 := Lib.hid hC3
              have HF : Hid (kk = (cpt xs).length ∧ ys.take kk = cpt xs) := by
                show _ ∧ _
                have ex : xs.take (j + 1 + (e + 1)) = xs := List.take_of_length_le (by rw [HN.out]; omega)
                rw [ex] at htk hkl
                exact ⟨hkl, htk⟩
              have HCh := Lib.hid hCh
              have hyl' : kk ≤ ys.length := by omega
              clear hint htk hkl hI2 hyl hCh hr2 hI3 hC3
              rw [q1]
              go_wp2
              rw [HR2.out]
              go_wp2
              go_ret
              refine ⟨_, ?_, HI3.out, ?_, HCh.out.trans HC3.out (fun _ h _ => h)⟩
              · rw [← HF.out.1]; rfl
              · rw [← HF.out.1, ← HF.out.2]
                unfold splice
                rw [List.take_append_of_le_length (by rw [List.length_take]; omega), List.take_take, Nat.min_self]
        · have he' : (x1 == x0) = false := by simpa using he
          go_upto_region 6 with (fail)
          go_quiet (fail)
          go_wp2
          refine ⟨⟨j + 2, m + nq, by omega, by omega, by go_num, ?_, by rw [← HW.out, World.drewN_drewN]⟩, by simp [intOf]; omega⟩
          have hlj : j + 1 < xs.length := by rw [HN.out]; exact hlt
          have a := HX1.out
          have b := HX0.out
          rw [List.getElem?_eq_getElem (by omega)] at a b
          injection a with a
          injection b with b
          rw [cpt_ne xs j hlj (by rw [a, b]; exact he), HCP.out, ← List.take_succ_eq_append_getElem hlj]
      · obtain rfl : k = n := by omega
        go_wp2
        go_ret
        have hE : cpt xs = xs := by have := HCP.out; rwa [List.take_of_length_le (by rw [HN.out]; omega)] at this
        exact ⟨xs, by rw [hE, HN.out]; rfl, HI.out.drewN m, by rw [hE, List.take_length], (Ch.refl _ _).drewN m⟩
end Go.Proofs.YtjaohgnloddgfaaGreatDoor

namespace Go.Proofs.YtjaohgnloddgfaaGreatDoor
open Go.RowKit
set_option linter.unusedVariables false

def startOf (off : Int) : Int := off - off % 64
theorem memStart (w : World) (off : Int) (h : 0 ≤ off ∧ off < 18446744073709551616) : Calls Tryz.prog 101 #[.int .u64 off] w fun e w' => e = .returned (.int .u64 (startOf off)) ∧ w = w' := by
  obtain ⟨h1, h2⟩ := h
  have e1 : IntKind.u64.wrap (off - off % 64) = off - off % 64 := IntWalk.u64_in _ (by omega)
  unfold startOf
  go_enter Tryz.func101, Tryz.ntmps101
  go_wp2
  go_ret
  exact ⟨rfl, rfl⟩

theorem info_instr : (Tryz.prog.info? 174).map (fun i => (i.zero, i.size, i.bytes)) = some (some (.agg #[.int .u8 0, .int .u64 0, .int .u64 0]), 3, 24) := by kernel_rfl

/-- make of an empty slice of words with room for n. -/
theorem run_make_room {P : Program} (t e : TypeId) (n : Nat) (ht : P.underlying t = some (.slice e)) (hinfo : (P.info? e).map (fun i => (i.zero, i.size, i.bytes)) = some (some (.int .u64 0), 1, 8)) (hn : n ≤ 1000000) (w : World) :
    (Instr.makeSlice t (.int .i64 0) (.int .i64 (n : Int))).run P w = .ok (.slice (some ⟨w.heap.size, 0, none⟩) 0 n) (w.alloc (.cells (ia .u64 (List.replicate n (0 : Int))) e)) := by
  cases hi : P.info? e with
  | none => rw [hi] at hinfo; cases hinfo
  | some i =>
    rw [hi] at hinfo
    simp only [Option.map_some, Option.some.injEq, Prod.mk.injEq] at hinfo
    obtain ⟨hz, hs, hb⟩ := hinfo
    have hr := run_make (P := P) w t e i (.int .u64 0) ht hi hz .i64 .i64 0 n (by omega) (by omega) (by rw [hb]; omega) (by omega)
    rw [hr, hs]
    simp only [Int.toNat_natCast, Nat.mul_one, Int.toNat_zero]
    congr 3
    congr 1
    simp only [madeCells, Value.cells, ia, List.map_replicate]
    apply Array.ext
    · simp
    · intro i h1 h2
      simp [Nat.mod_one]
/-- append of one word to a slice with room. -/
theorem wpList_append_ib {P : Program} {w : World} {ops : Array Oper} {rest : List Oper} {o : Oper} {a : Act} {Q : Exit → Act → World → Prop} (hgd : o.guard = none) (s x : Operand) (t : TypeId)
    (ho : o.op = .call { callee := .builtin .append, args := #[s, x], argTypes := #[t, t] }) (e : TypeId) (ht : P.underlying t = some (.slice e)) (hinfo : (P.info? e).map (fun i => (i.zero, i.size, i.bytes)) = some (some (.int .u64 0), 1, 8))
    (g k c : Nat) (ad : Addr) (d : Nat) (v : Int) (xs : List Int) (hse : a.eval s = .slice (some ⟨g, 0, none⟩) k c) (hxe : a.eval x = .slice (some ad) 1 d) (hI : IB .u64 e w g xs) (hk : k < c) (hc : c ≤ xs.length) (hv : w.cell? (ad.add 0) = some (.int .u64 v))
    (h : wpList P ops Q rest (a.put o.dst (.slice (some ⟨g, 0, none⟩) (k + 1) c)) (w.setCell ⟨g, k, none⟩ (.int .u64 v))) : wpList P ops Q (o :: rest) a w := by
  refine wpList_plain hgd fun K hK => ?_
  cases hi : P.info? e with
  | none => rw [hi] at hinfo; cases hinfo
  | some i =>
    rw [hi] at hinfo
    simp only [Option.map_some, Option.some.injEq, Prod.mk.injEq] at hinfo
    obtain ⟨hz, hs, hb⟩ := hinfo
    have hrun := run_append_room_cells (P := P) w t o.type e i ht hi g 0 k c ad 1 d [.int .u64 v] (by rw [hs]; rfl) (fun j u hj => by
        cases j with
        | zero => simp at hj; subst hj; exact hv
        | succ j => simp at hj) (fun u hu => by simp at hu; subst hu; rfl) (by omega)
      (fun j hj => by
        obtain rfl : j = 0 := by simpa using hj
        rw [hs, show 0 + k * 1 + 0 = k by omega, hI.cell (by omega)]; rfl) (fun j hj => hI.frozen _)
    have e1 : w.setCells g (0 + k * i.size) [.int .u64 v] = w.setCell ⟨g, k, none⟩ (.int .u64 v) := by rw [hs]; simp [World.setCells]
    rw [e1] at hrun
    unfold Oper.wp execOp
    simp only [ho, resolve, invoke, builtin, Sem.run_bind, Sem.run_pure, Result.andThen_ok, List.map_toArray, List.map_cons, List.map_nil, hse, hxe, hrun]
    exact hK _ _ h

/-- The stores of writes. -/
def insSt (ws : List (Int × Int)) : List Ins := ws.map fun p => (1, p.1, p.2)
def insFl (ls : List Int) : List Ins := ls.map fun l => (2, l, 0)
def starts (ws : List (Int × Int)) : List Int := ws.map fun p => startOf p.1
/-- The program of Stores. -/
def storesP (ws : List (Int × Int)) : List Ins := insSt ws ++ insFl (cpt (starts ws)) ++ [(3, 0, 0)]
theorem ins_one (a b c : Int) : ∀ u ∈ ([.int .u8 a, .int .u64 b, .int .u64 c] : List Value), u.oneCell' = true := by
  intro u hu
  simp only [List.mem_cons, List.not_mem_nil, or_false] at hu
  rcases hu with rfl | rfl | rfl <;> rfl
theorem cells_three (w : World) (e : TypeId) (a b c : Value) : ∀ (j : Nat) (u : Value), [a, b, c][j]? = some u → (w.alloc (.cells #[a, b, c] e)).cell? ((⟨w.heap.size, 0, none⟩ : Addr).add j) = some u := by
  intro j u hu
  have h1 : (⟨w.heap.size, 0, none⟩ : Addr).add j = ⟨w.heap.size, 0 + j, none⟩ := by unfold Addr.add; split <;> simp_all
  rw [h1, Nat.zero_add, (CB.new w e #[a, b, c]).cell]
  have : j = 0 ∨ j = 1 ∨ j = 2 ∨ 3 ≤ j := by omega
  rcases this with rfl | rfl | rfl | h
  · simpa using hu
  · simpa using hu
  · simpa using hu
  · rw [List.getElem?_eq_none (by simpa using h)] at hu; cases hu
/-- The lines so far, in n words. -/
def lnPad (ws : List (Int × Int)) (n k : Nat) : List Int := starts (ws.take k) ++ List.replicate (n - k) 0
theorem length_lnPad (ws : List (Int × Int)) (n k : Nat) (hw : ws.length = n) (hk : k ≤ n) : (lnPad ws n k).length = n := by simp [lnPad, starts]; omega
theorem lnPad_set (ws : List (Int × Int)) (n k : Nat) (hw : ws.length = n) (hk : k < n) : (lnPad ws n k).set k (startOf (ws[k]'(by omega)).1) = lnPad ws n (k + 1) := by
  have hkl : k < ws.length := by omega
  unfold lnPad starts
  rw [List.take_succ_eq_append_getElem hkl, List.set_append_right _ _ (by simp; omega)]
  obtain ⟨m, hm⟩ : ∃ m, n - k = m + 1 := ⟨n - k - 1, by omega⟩
  have h2 : n - (k + 1) = m := by omega
  have h3 : k - (List.map (fun p => startOf p.1) (List.take k ws)).length = 0 := by simp; omega
  rw [hm, h2, h3, List.replicate_succ, List.set_cons_zero, List.map_append]
  simp [-List.take_append_getElem]
theorem lnPad_all (ws : List (Int × Int)) (n : Nat) (hw : ws.length = n) : lnPad ws n n = starts ws := by
  unfold lnPad
  rw [List.take_of_length_le (by omega), Nat.sub_self]; simp
/-- The first loop's invariant. -/
def StoInv (w : World) (g n : Nat) (ws : List (Int × Int)) (k : Nat) (A : Option Addr) (c : Nat) (wr : World) : Prop :=
  Sl 174 3 wr A k c (pcells (insSt (ws.take k))) ∧ IB .u64 23 wr g (lnPad ws n k) ∧ Below w.heap.size w wr ∧ ∀ b, OwnB A b → w.heap.size ≤ b ∧ b ≠ g
theorem cpt_length (xs : List Int) : ∀ k, (cpt (xs.take k)).length ≤ k := by
  intro k
  induction k with
  | zero => simp [cpt]
  | succ k ih =>
    by_cases hk : k < xs.length
    · rw [List.take_succ_eq_append_getElem hk, cpt_snoc]
      split
      · omega
      · rw [List.length_append]; simp; exact ih
    · rw [List.take_of_length_le (by omega)] at ih ⊢
      omega
theorem cpt_le (xs : List Int) : (cpt xs).length ≤ xs.length := by have := cpt_length xs xs.length; rwa [List.take_length] at this
/-- The second loop's invariant. -/
def StoInv2 (w : World) (g n : Nat) (ws : List (Int × Int)) (zs cs : List Int) (j : Nat) (A : Option Addr) (c : Nat) (wr : World) : Prop :=
  Sl 174 3 wr A (n + j) c (pcells (insSt ws ++ insFl (cs.take j))) ∧ IB .u64 23 wr g zs ∧ Below w.heap.size w wr ∧ ∀ b, OwnB A b → w.heap.size ≤ b ∧ b ≠ g
def StoPost (w : World) (ps : List Ins) (e : Ending) (w' : World) : Prop :=
  ∃ A c, e = .returned (.slice A ps.length c) ∧ Sl 174 3 w' A ps.length c (pcells ps) ∧ Below w.heap.size w w' ∧ ∀ b, OwnB A b → w.heap.size ≤ b

set_option maxRecDepth 100000 in
set_option maxHeartbeats 4000000 in
theorem memStores (w : World) (A : Option Addr) (n c : Nat) (ws : List (Int × Int)) (hn : ws.length = n) (h1 : 1 ≤ n) (hm : n ≤ 12) (hS : Sl 147 2 w A n c (wcells ws)) (hr : ∀ p ∈ ws, 0 ≤ p.1 ∧ p.1 < 18446744073709551616) (hs : (starts ws).Pairwise (· ≤ ·)) :
    Calls Tryz.prog 76 #[.slice A n c] w (StoPost w (storesP ws)) := by
  have HN := Lib.hid hn
  have HS := Lib.hid hS
  have HR := Lib.hid hr
  have HSo := Lib.hid hs
  have e0 : ((n : Int) == 0) = false := by simp; omega
  have hmk : ∀ W : World, (Instr.makeSlice 28 (.int .i64 0) (.int .i64 (n : Int))).run Tryz.prog W = .ok (.slice (some ⟨W.heap.size, 0, none⟩) 0 n) (W.alloc (.cells (ia .u64 (List.replicate n 0)) 23)) := run_make_room 28 23 n Tryz.underlying28 info_u64 (by omega)
  clear hn hS hr hs
  go_enter Tryz.func76, Tryz.ntmps76
  go_wp2
  have HI0 : Hid (StoInv w w.heap.size n ws 0 none 0 (w.alloc (.cells (ia .u64 (List.replicate n 0)) 23))) := by
    refine ⟨Sl.nil, ?_, bl_alloc (Below.refl _ _) _, by simp [OwnB]⟩
    have : lnPad ws n 0 = List.replicate n 0 := by simp [lnPad, starts]
    rw [this]; exact IB.new _ _
  obtain ⟨g, hg⟩ : ∃ g, w.heap.size = g := ⟨_, rfl⟩
  obtain ⟨W, hW⟩ : ∃ W, w.alloc (.cells (ia .u64 (List.replicate n 0)) 23) = W := ⟨_, rfl⟩
  have HI1 : Hid (StoInv w g n ws 0 none 0 W) := by show StoInv _ _ _ _ _ _ _ _; rw [← hg, ← hW]; exact HI0.out
  have hgw : w.heap.size ≤ g := by omega
  rw [hg, hW]
  clear hmk hg hW HI0
  go_loopw [17, 3, 4, 6, 18, 19, 20, 21, 22, 23, 24, 25, 26, 27, 28, 29, 30, 31, 32, 33, 34, 35] (fun i p l _ _ _ _ _ _ _ _ _ _ _ _ _ _ _ _ _ _ _ wr => ∃ (k : Nat) (A' : Option Addr) (c' : Nat), k ≤ n ∧ i = .int .i64 k ∧ p = .slice A' k c' ∧ l = .slice (some ⟨g, 0, none⟩) k n ∧ StoInv w g n ws k A' c' wr) (fun i p l _ _ _ _ _ _ _ _ _ _ _ _ _ _ _ _ _ _ _ _ => n - (intOf i).toNat)
  case atStart => exact ⟨0, none, 0, by omega, rfl, rfl, rfl, HI1.out⟩
  case round =>
    clear HI1
    obtain ⟨k, A', c', hk, rfl, rfl, rfl, hP, hI, hB, hO⟩ := hrel
    have HP := Lib.hid hP
    have HI := Lib.hid hI
    have HB := Lib.hid hB
    have HO := Lib.hid hO
    by_cases hlt : k < n
    · have hkl : k < ws.length := by rw [HN.out]; exact hlt
      obtain ⟨gw, ow, hA, hl, c1, c2⟩ := (HS.out.keep (fun b hb => hB.block b (HS.out.lt hb))).wr hkl
      obtain ⟨⟨of, v⟩, hp⟩ : ∃ p, ws[k] = p := ⟨_, rfl⟩
      have hpp := HR.out _ (List.getElem_mem hkl)
      rw [hp] at c1 c2 hpp
      have HPP := Lib.hid hp
      have hof : 0 ≤ of ∧ of < 18446744073709551616 := hpp
      have HOF := Lib.hid hof
      subst hA
      rw [show 2 * k = k * 2 by omega] at c1 c2
      have hgn : ¬ gw = wr.heap.size := by omega
      have hgr := hI.lt
      clear hP hI hB hO hp hpp hof
      go_wp2_with (at_builtin; refine wpList_append_sl rfl (.tmp 21) (.tmp 27) 124 rfl 174 (.agg #[.int .u8 0, .int .u64 0, .int .u64 0]) 3 24 rfl (by omega) Tryz.underlying124 info_instr (by omega) A' k c' (pcells (insSt (ws.take k))) ⟨wr.heap.size + 1, 0, none⟩ 1 1 [.int .u8 1, .int .u64 of, .int .u64 v] rfl rfl (HP.out.keep (fun b hb => ((bl_alloc (bl_alloc (Below.refl _ _) _) _ : Below wr.heap.size wr _).block b (HP.out.lt hb)))) rfl (by omega) (by have := cells_three (wr.alloc (.cells #[.int .u64 of, .int .u64 v] 147)) 174 (.int .u8 1) (.int .u64 of) (.int .u64 v); simpa using this) (ins_one _ _ _) (by omega) ?_; intro A2 c2' w2 HO2 HC2 HW2 HG2; have hsz : wr.heap.size + 2 ≤ w2.heap.size := (by have := HC2.out.size; simpa using this); have hno : ∀ b, wr.heap.size ≤ b → ¬ OwnB A' b := (fun b hb ho => by have := HP.out.lt ho; omega); have m0 : w2.cell? ⟨wr.heap.size, 0, none⟩ = some (.int .u64 of) := ((HC2.out.cells _ _ (by simp; omega) (hno _ (Nat.le_refl _))).trans (by go_simp)); have HI2 : Hid (IB .u64 23 w2 g (lnPad ws n k)) := (((HI.out.alloc _).alloc _).ch HC2.out (fun ho => (HO.out g ho).2 rfl)); have m1 : wr.heap.size < w2.heap.size := (by omega); clear hno)
      go_wp2_with (first | (go_at_call 101; refine (memStart _ of HOF.out).mono ?_; rintro e w' ⟨rfl, rfl⟩) | (at_builtin; refine wpList_append_ib rfl (.tmp 29) (.tmp 33) 28 rfl 23 Tryz.underlying28 info_u64 g k n ⟨w2.heap.size, 0, none⟩ 1 (startOf of) (lnPad ws n k) rfl rfl (HI2.out.alloc _) hlt (by rw [length_lnPad ws n k HN.out hk]; exact Nat.le_refl _) (by simp [go_sem]) ?_))
      refine ⟨⟨k + 1, A2, c2', by omega, by go_num, rfl, rfl, ?_, ?_, ?_, ?_⟩, by simp [intOf]; omega⟩
      · have hx := HO2.out
        have e1 : pcells (insSt (ws.take (k + 1))) = pcells (insSt (ws.take k)) ++ [.int .u8 1, .int .u64 of, .int .u64 v] := by
          rw [List.take_succ_eq_append_getElem hkl, HPP.out, insSt, List.map_append, pcells_append]; rfl
        rw [e1]
        refine hx.keep (fun b hb => ?_)
        have hbl := hx.lt hb
        have hbg : b ≠ g := by
          rcases HW2.out b hb with h | h
          · exact (HO.out b h).2
          · rw [h]; simp; omega
        rw [Below.heap_setCell _ _ _ _ hbg, Below.heap_alloc _ _ _ hbl]
      · have := (HI2.out.alloc (.cells #[.int .u64 (startOf of)] 23)).set k (startOf of)
        rw [← lnPad_set ws n k HN.out hlt, HPP.out]
        exact this
      · refine bl_set (bl_alloc (bl_ch (bl_alloc (bl_alloc HB.out _) _) HC2.out (fun b hb => (HO.out b hb).1)) _) hgw _
      · intro b hb
        rcases HW2.out b hb with h | h
        · exact HO.out b h
        · have := HB.out.size
          rw [h]; simp; omega
    · obtain rfl : k = n := by omega
      have hI' : IB .u64 23 wr g (starts ws) := by rw [← lnPad_all ws k HN.out]; exact hI
      have hP' : Sl 174 3 wr A' k c' (pcells (insSt ws)) := by rw [List.take_of_length_le (by rw [HN.out]; omega)] at hP; exact hP
      have hsl : (starts ws).length = k := by simp [starts, HN.out]
      have HSRT := Lib.hid (sortU wr (some ⟨g, 0, none⟩) k k (starts ws) hsl h1 hm hI'.rd0 HSo.out)
      have HCPT := Lib.hid (fun m => compactU (wr.drewN m) g k (starts ws) hsl h1 (by omega) (hI'.drewN m))
      have HP' := Lib.hid hP'
      clear hP hI hB hO hI' hP' HP HI hsl
      go_wp2_with (first | (go_at_call 102; refine HSRT.out.mono ?_; rintro e w' ⟨rfl, m, rfl⟩) | (go_at_call 103; refine (HCPT.out m).mono ?_; rintro e w3 ⟨zs, rfl, hZ, hzt, hC3⟩; have HZ := Lib.hid hZ; have HZT := Lib.hid hzt; have HC3 := Lib.hid hC3; clear hZ hzt hC3))
      have HI2 : Hid (StoInv2 w g k ws zs (cpt (starts ws)) 0 A' c' w3) := by
        refine ⟨?_, HZ.out, bl_ch (bl_drewN HB.out m) HC3.out (fun b hb => by rw [show b = g from hb]; exact hgw), HO.out⟩
        have h1 := HP'.out.keep (w' := w3) (fun b hb => HC3.out.block b (HP'.out.lt hb) (fun h => (HO.out b hb).2 h))
        simpa [insFl] using h1
      have hzl : (cpt (starts ws)).length ≤ k := by have := cpt_le (starts ws); simp [starts] at this; rw [HN.out] at this; exact this
      obtain ⟨cs, hcs⟩ : ∃ cs, cpt (starts ws) = cs := ⟨_, rfl⟩
      obtain ⟨q, hq⟩ : ∃ q, cs.length = q := ⟨_, rfl⟩
      have HCS := Lib.hid hcs
      have HQ := Lib.hid hq
      rw [hcs] at HI2 HZT hzl ⊢
      rw [hq] at HZT hzl ⊢
      clear hcs hq HSRT HCPT HZ HC3 HB HO HP'
      go_loopw [41, 3, 8, 42, 43, 44, 45, 46, 47, 48, 49, 50] (fun i p _ _ _ _ _ _ _ _ _ _ wr => ∃ (j : Nat) (A' : Option Addr) (c' : Nat), j ≤ q ∧ i = .int .i64 j ∧ p = .slice A' (k + j) c' ∧ StoInv2 w g k ws zs cs j A' c' wr) (fun i _ _ _ _ _ _ _ _ _ _ _ _ => q - (intOf i).toNat)
      case atStart => exact ⟨0, _, _, by omega, rfl, rfl, HI2.out⟩
      case round =>
        clear HI2
        obtain ⟨j, A1, c1, hj, rfl, rfl, hP, hI, hB, hO⟩ := hrel
        have HP := Lib.hid hP
        have HI := Lib.hid hI
        have HB := Lib.hid hB
        have HO := Lib.hid hO
        have hgr := hI.lt
        by_cases hjq : j < q
        · have hjl : j < cs.length := by rw [HQ.out]; exact hjq
          obtain ⟨l, hl⟩ : ∃ l, cs[j] = l := ⟨_, rfl⟩
          have hzl' : q ≤ zs.length := by have := congrArg List.length HZT.out; rw [List.length_take, HQ.out] at this; omega
          have hzj : zs[j]'(by omega) = l := by
            have h1 : (zs.take q)[j]'(by rw [List.length_take]; omega) = l := by
              have h2 := HZT.out
              simp only [h2]; exact hl
            rwa [List.getElem_take] at h1
          have cj : wr.cell? ⟨g, j, none⟩ = some (.int .u64 l) := by rw [hI.cell (by omega), hzj]
          have HL := Lib.hid hl
          have hjn : j < k := by omega
          clear hP hI hB hO hl hzj
          go_wp2_with (at_builtin; refine wpList_append_sl rfl (.tmp 45) (.tmp 48) 124 rfl 174 (.agg #[.int .u8 0, .int .u64 0, .int .u64 0]) 3 24 rfl (by omega) Tryz.underlying124 info_instr (by omega) A1 (k + j) c1 (pcells (insSt ws ++ insFl (cs.take j))) ⟨wr.heap.size, 0, none⟩ 1 1 [.int .u8 2, .int .u64 l, .int .u64 0] rfl rfl (HP.out.keep (fun b hb => Below.heap_alloc _ _ _ (HP.out.lt hb))) rfl (by omega) (cells_three wr 174 _ _ _) (ins_one _ _ _) (by omega) ?_; intro A2 c2' w2 HO2 HC2 HW2 HG2)
          refine ⟨⟨j + 1, A2, c2', by omega, by go_num, rfl, ?_, ?_, ?_, ?_⟩, by simp [intOf]; omega⟩
          · have e1 : pcells (insSt ws ++ insFl (cs.take (j + 1))) = pcells (insSt ws ++ insFl (cs.take j)) ++ [.int .u8 2, .int .u64 l, .int .u64 0] := by
              rw [List.take_succ_eq_append_getElem hjl, HL.out, insFl, List.map_append, ← List.append_assoc, pcells_append]; rfl
            rw [e1]; exact HO2.out
          · exact (HI.out.alloc _).ch HC2.out (fun ho => (HO.out g ho).2 rfl)
          · exact bl_ch (bl_alloc HB.out _) HC2.out (fun b hb => (HO.out b hb).1)
          · intro b hb
            have := HB.out.size
            rcases HW2.out b hb with h | h
            · exact HO.out b h
            · rw [h]; simp; omega
        · obtain rfl : j = q := by omega
          clear hP hI hB hO
          go_wp2_with (at_builtin; refine wpList_append_sl rfl (.tmp 51) (.tmp 53) 124 rfl 174 (.agg #[.int .u8 0, .int .u64 0, .int .u64 0]) 3 24 rfl (by omega) Tryz.underlying124 info_instr (by omega) A1 (k + j) c1 (pcells (insSt ws ++ insFl (cs.take j))) ⟨wr.heap.size, 0, none⟩ 1 1 [.int .u8 3, .int .u64 0, .int .u64 0] rfl rfl (HP.out.keep (fun b hb => Below.heap_alloc _ _ _ (HP.out.lt hb))) rfl (by omega) (cells_three wr 174 _ _ _) (ins_one _ _ _) (by omega) ?_; intro A2 c2' w2 HO2 HC2 HW2 HG2)
          go_ret
          have hE : storesP ws = insSt ws ++ insFl (cs.take j) ++ [(3, 0, 0)] := by
            rw [storesP, HCS.out, List.take_of_length_le (by rw [HQ.out]; exact Nat.le_refl _)]
          have hlen : (storesP ws).length = k + j + 1 := by
            rw [hE]; simp [insSt, insFl, HN.out, HQ.out]; omega
          refine ⟨A2, c2', ?_, ?_, ?_, ?_⟩
          · rw [hlen]; rfl
          · rw [hlen, hE, pcells_append]; exact HO2.out
          · exact bl_ch (bl_alloc HB.out _) HC2.out (fun b hb => (HO.out b hb).1)
          · intro b hb
            have := HB.out.size
            rcases HW2.out b hb with h | h
            · exact (HO.out b h).1
            · rw [h]; simp; omega
end Go.Proofs.YtjaohgnloddgfaaGreatDoor

namespace Go.Proofs.YtjaohgnloddgfaaGreatDoor
open Go.RowKit
set_option linter.unusedVariables false

/-- A device of n lines that is on, with those words, all persistent. -/
structure Clean (S : DevS) (n : Nat) (xs : List Int) (N : Nat) : Prop where
  good : Good S N
  nl : S.lns.length = n
  cur : S.cur = xs
  pers : S.pers = xs
  off : S.off = false
  armed : S.armed = false
  hist : ∀ (q : Nat) (l : Ln), S.lns[q]? = some l → l.hist = []
  err : ∀ j, (S.thr j).err = 0
  notes : ∀ j x, (S.thr j).notes x = none
/-- In the middle of a program of stores: those writes are stored, those lines are flushed. -/
structure Mid (S : DevS) (i n : Nat) (xs : List Int) (ws : List (Int × Int)) (ls : List Int) (N : Nat) : Prop where
  good : Good S N
  nl : S.lns.length = n
  cur : S.cur = applyW xs ws
  pers : S.pers = xs
  off : S.off = false
  armed : S.armed = false
  hist : ∀ (q : Nat) (l : Ln), S.lns[q]? = some l → l.hist = ws.filter fun p => decide (p.1 / 64 = (q : Int))
  err : ∀ j, (S.thr j).err = 0
  other : ∀ j, j ≠ i → ∀ x, (S.thr j).notes x = none
  notes : ∀ (q : Nat), (64 * (q : Int) ∈ ls ∧ q < n) ∨ (S.thr i).notes (q : Int) = none
  note : ∀ (q : Nat) (l : Ln), S.lns[q]? = some l → 64 * (q : Int) ∈ ls → (S.thr i).notes (q : Int) = some (l.done + (l.hist.length : Int))

section
variable {S : DevS} {i n N : Nat} {xs : List Int} {ws : List (Int × Int)} {ls : List Int}
theorem Clean.mid (h : Clean S n xs N) (i : Nat) : Mid S i n xs [] [] N :=
  ⟨h.good, h.nl, h.cur, h.pers, h.off, h.armed, fun q l hl => by rw [h.hist q l hl]; rfl, h.err, fun j _ x => h.notes j x, fun q => .inr (h.notes i q), fun q l _ hm => by cases hm⟩
theorem cnt_ok (ho : S.off = false) (ha : S.armed = false) : S.cntB true = true ∧ S.cnt i true = { S with exec := IntKind.u64.wrap (S.exec + 1) } := by
  simp [DevS.cntB, DevS.cnt, DevS.onB, ho, ha]
theorem store_ok (ho : S.off = false) (ha : S.armed = false) {k : Nat} (hk : k < 8 * S.lns.length) (v : Int) : S.store i (8 * (k : Int)) v = ({ S with exec := IntKind.u64.wrap (S.exec + 1) } : DevS).write k v := by
  have hw : S.wordB (8 * (k : Int)) = true := by unfold DevS.wordB; simp; omega
  have hq : ((8 * (k : Int)) / 8).toNat = k := by omega
  unfold DevS.store
  rw [hw, (cnt_ok (i := i) ho ha).1, if_pos rfl, hq, (cnt_ok ho ha).2]
theorem Mid.store (h : Mid S i n xs ws [] N) {k : Nat} (hk : k < 8 * n) (v : Int) : Mid (S.store i (8 * (k : Int)) v) i n xs (ws ++ [(8 * (k : Int), v)]) [] (N + 1) := by
  have hG := h.good.store i (8 * (k : Int)) v (by omega)
  have hE := store_ok (i := i) h.off h.armed (k := k) (by rw [h.nl]; exact hk) v
  rw [hE] at hG ⊢
  refine ⟨hG, by simp [DevS.write, h.nl], ?_, h.pers, h.off, h.armed, ?_, h.err, h.other, fun q => .inr (by have := h.notes q; simp only [List.not_mem_nil, false_and, false_or] at this; exact this), fun q l _ hm => by cases hm⟩
  · rw [applyW_snoc, show ((8 * (k : Int)) / 8).toNat = k by omega]
    show S.cur.set k v = _
    rw [h.cur]
  · intro q l hl
    have hlt : q < S.lns.length := by
      have := (List.getElem?_eq_some_iff.1 hl).1
      simpa [DevS.write] using this
    have h0 := h.hist q S.lns[q] (by simp [hlt])
    simp only [DevS.write, List.getElem?_modify, List.getElem?_eq_getElem hlt] at hl
    rw [List.filter_append]
    by_cases hq : k / 8 = q
    · simp [hq] at hl
      subst hl
      have : (8 * (k : Int)) / 64 = (q : Int) := by omega
      simp [h0, this]
    · simp [hq] at hl
      subst hl
      have : ¬ (8 * (k : Int)) / 64 = (q : Int) := by omega
      simp [h0, this]
theorem Mid.flush (h : Mid S i n xs ws ls N) {q : Nat} (hq : q < n) (hN : N < 1000000) : Mid (S.flush i (64 * (q : Int))) i n xs ws (ls ++ [64 * (q : Int)]) (N + 1) := by
  have hG := h.good.flush i (64 * (q : Int)) (by omega) (by omega)
  have hin : S.inB (64 * (q : Int)) = true := by unfold DevS.inB; simp [h.nl]; omega
  have hE : S.flush i (64 * (q : Int)) = ({ S with exec := IntKind.u64.wrap (S.exec + 1) } : DevS).note i q := by
    unfold DevS.flush
    rw [hin, (cnt_ok (i := i) h.off h.armed).1, if_pos rfl, (cnt_ok h.off h.armed).2, show ((64 * (q : Int)) / 64).toNat = q by omega]
  rw [hE] at hG ⊢
  have hql : q < S.lns.length := by rw [h.nl]; exact hq
  obtain ⟨a1, a2, _⟩ := h.good.ln q S.lns[q] (by simp [hql])
  have hw : IntKind.u64.wrap (S.lns[q].done + (S.lns[q].hist.length : Int)) = S.lns[q].done + (S.lns[q].hist.length : Int) := IntWalk.u64_in _ (by omega)
  refine ⟨hG, h.nl, h.cur, h.pers, h.off, h.armed, h.hist, fun j => ?_, fun j hj x => ?_, fun r => ?_, fun r l hl hm => ?_⟩
  · by_cases hj : j = i
    · subst hj; simp [DevS.note, h.err]
    · simp [DevS.note, hj, h.err]
  · simp [DevS.note, hj, h.other j hj x]
  · by_cases hr : r = q
    · subst hr; left; exact ⟨by simp, hq⟩
    · have hr' : ¬ (r : Int) = (q : Int) := by omega
      rcases h.notes r with h1 | h1
      · left; exact ⟨by simp [h1.1], h1.2⟩
      · right; simp [DevS.note, hr', h1]
  · have hl1 : S.lns[r]? = some l := hl
    by_cases hr : r = q
    · subst hr
      have : S.lns[r] = l := by rw [List.getElem?_eq_getElem hql] at hl1; injection hl1
      subst this
      simp [DevS.note, hql, hw]
    · have hr' : ¬ (r : Int) = (q : Int) := by omega
      simp only [List.mem_append, List.mem_singleton] at hm
      rcases hm with hm | hm
      · simp [DevS.note, hr', h.note r l hl1 hm]
      · exfalso; omega
theorem applyW_filter (j : Nat) : ∀ (ws : List (Int × Int)) (xs : List Int), (∀ p ∈ ws, 0 ≤ p.1) → (applyW xs (ws.filter fun p => decide (p.1 / 64 = ((j / 8 : Nat) : Int))))[j]? = (applyW xs ws)[j]? := by
  intro ws
  induction ws with
  | nil => intro xs _; rfl
  | cons p ws ih =>
    intro xs hp
    have hp0 := hp p (by simp)
    have ih' := fun xs => ih xs (fun q hq => hp q (by simp [hq]))
    by_cases hd : p.1 / 64 = ((j / 8 : Nat) : Int)
    · rw [List.filter_cons_of_pos (by simpa using hd)]
      exact ih' _
    · rw [List.filter_cons_of_neg (by simpa using hd), ih' xs]
      show _ = (applyW (xs.set (p.1 / 8).toNat p.2) ws)[j]?
      refine applyW_congr _ j _ _ (by simp) ?_
      rw [List.getElem?_set, if_neg (by omega)]
theorem Mid.fence (h : Mid S i n xs ws ls N) (hi : i < 8) (hN : N < 1000000) (hw : ∀ p ∈ ws, 0 ≤ p.1 ∧ startOf p.1 ∈ ls) : Clean (S.fence i) n (applyW xs ws) (N + 1) := by
  have hG := (h.good.fence hi (by omega)).mono (Nat.le_succ N)
  obtain ⟨c1, c2⟩ := cnt_ok (i := i) h.off h.armed
  have hE : S.fence i = ((({ S with exec := IntKind.u64.wrap (S.exec + 1) } : DevS).upto (({ S with exec := IntKind.u64.wrap (S.exec + 1) } : DevS).due i))).clearN i := by
    unfold DevS.fence; rw [c1, if_pos rfl, c2]
  rw [hE] at hG ⊢
  obtain ⟨T, hT⟩ : ∃ T : DevS, T = { S with exec := IntKind.u64.wrap (S.exec + 1) } := ⟨_, rfl⟩
  have hTl : T.lns = S.lns := by rw [hT]
  have hTt : T.thr = S.thr := by rw [hT]
  have hTp : T.pers = xs := by rw [hT]; exact h.pers
  have hTc : T.cur = applyW xs ws := by rw [hT]; exact h.cur
  rw [← hT] at hG ⊢
  have hdue : ∀ (q : Nat) (l : Ln), S.lns[q]? = some l → T.due i q = l.hist.length := by
    intro q l hl
    obtain ⟨a1, a2, _⟩ := h.good.ln q l hl
    unfold DevS.due
    rw [hTt, hTl, hl]
    rcases h.notes q with hm | hm
    · rw [h.note q l hl hm.1]; simp; omega
    · rw [hm]
      have : l.hist = [] := by
        rw [h.hist q l hl, List.filter_eq_nil_iff]
        intro p hp hd
        have hd' : p.1 / 64 = (q : Int) := by simpa using hd
        have hs := (hw p hp).2
        unfold startOf at hs
        have : p.1 - p.1 % 64 = 64 * (q : Int) := by omega
        rw [this] at hs
        rw [h.note q l hl hs] at hm
        cases hm
      rw [this]; rfl
  have hlen : (T.upto (T.due i)).pers.length = xs.length := by rw [(length_upto _).1, hTp]
  refine ⟨hG, ?_, hTc, ?_, by rw [hT]; exact h.off, by rw [hT]; exact h.armed, ?_, fun j => ?_, fun j x => ?_⟩
  · show (T.upto (T.due i)).lns.length = n
    rw [(length_upto _).2, hTl]; exact h.nl
  · show (T.upto (T.due i)).pers = _
    apply List.ext_getElem?
    intro j
    by_cases hj : j < xs.length
    · rw [upto_pers _ j (by rw [hTp]; exact hj), hTp, hTl]
      have hjl : j / 8 < S.lns.length := by
        have := h.good.np
        rw [h.pers] at this
        omega
      obtain ⟨l, hl⟩ : ∃ l, S.lns[j / 8]? = some l := ⟨_, List.getElem?_eq_getElem hjl⟩
      rw [hl, hdue _ l hl]
      simp only [Option.map_some, Option.getD_some, List.take_length]
      rw [h.hist _ l hl]
      exact applyW_filter j ws xs (fun p hp => (hw p hp).1)
    · rw [List.getElem?_eq_none (by rw [hlen]; omega), List.getElem?_eq_none (by rw [length_applyW]; omega)]
  · intro q l hl
    have hl : (T.upto (T.due i)).lns[q]? = some l := hl
    rw [upto_ln, hTl] at hl
    obtain ⟨l0, h0, rfl⟩ := Option.map_eq_some_iff.1 hl
    simp [hdue q l0 h0]
  · show (((T.upto (T.due i)).clearN i).thr j).err = 0
    have e1 : ((T.upto (T.due i)).thr) = S.thr := hTt
    by_cases hj : j = i
    · subst hj; simp [DevS.clearN, e1, h.err]
    · simp [DevS.clearN, hj, e1, h.err]
  · show (((T.upto (T.due i)).clearN i).thr j).notes x = none
    have e1 : ((T.upto (T.due i)).thr) = S.thr := hTt
    by_cases hj : j = i
    · subst hj; simp [DevS.clearN]
    · simp [DevS.clearN, hj, e1, h.other j hj x]

theorem Mid.stores (hi : i < 8) : ∀ (vs : List (Int × Int)) {S : DevS} {ws : List (Int × Int)} {N : Nat}, Mid S i n xs ws [] N → (∀ p ∈ vs, ∃ k : Nat, p.1 = 8 * (k : Int) ∧ k < 8 * n) → Mid (S.runP i (insSt vs)) i n xs (ws ++ vs) [] (N + vs.length) := by
  intro vs
  induction vs with
  | nil => intro S ws N h _; simpa [insSt, DevS.runP] using h
  | cons p vs ih =>
    intro S ws N h hp
    obtain ⟨k, hk1, hk2⟩ := hp p (by simp)
    have h1 := h.store hk2 p.2
    have h2 := ih h1 (fun q hq => hp q (by simp [hq]))
    have e : (8 * (k : Int), p.2) = p := by rw [← hk1]
    rw [e, ← hk1] at h2
    simp only [List.append_assoc, List.singleton_append] at h2
    simp only [List.length_cons]
    rw [show N + (vs.length + 1) = N + 1 + vs.length by omega]
    exact h2
theorem Mid.flushes (hi : i < 8) : ∀ (ks : List Int) {S : DevS} {ls : List Int} {N : Nat}, Mid S i n xs ws ls N → N + ks.length < 1000000 → (∀ l ∈ ks, ∃ q : Nat, l = 64 * (q : Int) ∧ q < n) → Mid (S.runP i (insFl ks)) i n xs ws (ls ++ ks) (N + ks.length) := by
  intro ks
  induction ks with
  | nil => intro S ls N h _ _; simpa [insFl, DevS.runP] using h
  | cons l ks ih =>
    intro S ls N h hN hp
    simp only [List.length_cons] at hN ⊢
    obtain ⟨q, rfl, hq⟩ := hp l (by simp)
    have h1 := h.flush hq (by omega)
    have h2 := ih h1 (by omega) (fun q hq => hp q (by simp [hq]))
    simp only [List.append_assoc, List.singleton_append] at h2
    rw [show N + (ks.length + 1) = N + 1 + ks.length by omega]
    exact h2
theorem mem_cpt (ys : List Int) : ∀ k, ∀ x, x ∈ cpt (ys.take k) ↔ x ∈ ys.take k := by
  intro k
  induction k with
  | zero => intro x; simp [cpt]
  | succ k ih =>
    intro x
    by_cases hk : k < ys.length
    · rw [List.take_succ_eq_append_getElem hk, cpt_snoc]
      split
      · rename_i hl
        rw [List.mem_append, ih x]
        constructor
        · exact fun h => .inl h
        · rintro (h | h)
          · exact h
          · simp at h
            subst h
            exact (ih _).1 (List.mem_of_getLast? hl)
      · rw [List.mem_append, List.mem_append, ih x]
    · rw [List.take_of_length_le (by omega)]
      have := ih x
      rwa [List.take_of_length_le (by omega)] at this
theorem mem_cpt' (ys : List Int) (x : Int) : x ∈ cpt ys ↔ x ∈ ys := by have := mem_cpt ys ys.length x; rwa [List.take_length] at this
theorem runP_append (S : DevS) (i : Nat) (ps qs : List Ins) : S.runP i (ps ++ qs) = (S.runP i ps).runP i qs := by simp [DevS.runP]
/-- The program of Stores makes the writes persistent. -/
theorem Clean.stores (h : Clean S n xs N) (hi : i < 8) (vs : List (Int × Int)) (hv : ∀ p ∈ vs, ∃ k : Nat, p.1 = 8 * (k : Int) ∧ k < 8 * n) (hN : N + (storesP vs).length < 1000000) : Clean (S.runP i (storesP vs)) n (applyW xs vs) (N + (storesP vs).length) := by
  have hl : (storesP vs).length = vs.length + (cpt (starts vs)).length + 1 := by simp [storesP, insSt, insFl]; omega
  rw [hl] at hN ⊢
  have h1 := Mid.stores hi vs (h.mid i) hv
  rw [List.nil_append] at h1
  have h2 := Mid.flushes hi (cpt (starts vs)) h1 (by omega) (fun l hl => by
    rw [mem_cpt'] at hl
    obtain ⟨p, hp, rfl⟩ := List.mem_map.1 hl
    obtain ⟨k, hk1, hk2⟩ := hv p hp
    refine ⟨k / 8, ?_, by omega⟩
    unfold startOf; omega)
  rw [List.nil_append] at h2
  have h3 := h2.fence hi (by omega) (fun p hp => by
    obtain ⟨k, hk1, hk2⟩ := hv p hp
    exact ⟨by omega, by rw [mem_cpt']; exact List.mem_map.2 ⟨p, hp, rfl⟩⟩)
  unfold storesP
  rw [runP_append, runP_append]
  rw [show N + (vs.length + (cpt (starts vs)).length + 1) = N + vs.length + (cpt (starts vs)).length + 1 by omega]
  exact h3
end
end Go.Proofs.YtjaohgnloddgfaaGreatDoor

namespace Go.Proofs.YtjaohgnloddgfaaGreatDoor
open Go.RowKit
set_option linter.unusedVariables false

section
variable {F : Nat → Prop} {d : Nat} {t : Nat → Nat} {w : World} {S : DevS} {N : Nat}
theorem vLoad (h : DV F d t w S) (i : Nat) (hi : i < 8) (hO : S.off = false) (k : Nat) (v : Int) (hk : S.cur[k]? = some v) :
    Calls Tryz.prog 25 #[.pointer (some ⟨t i, 0, none⟩), .int .u64 (8 * (k : Int))] w fun e w' => e = .returned (.int .u64 v) ∧ w = w' := by
  obtain ⟨_, L, rfl, h3, _⟩ := h
  obtain ⟨hl, hv⟩ := List.getElem?_eq_some_iff.1 hk
  have := thLoad_ok w d L S h3 i hi hO k hl
  rwa [hv] at this
theorem vErr (h : DV F d t w S) (i : Nat) (hi : i < 8) : Calls Tryz.prog 57 #[.pointer (some ⟨t i, 0, none⟩)] w fun e w' => e = .returned (.int .i64 (S.thr i).err) ∧ w = w' := by
  obtain ⟨_, L, rfl, h3, _⟩ := h
  exact thErr w d L S h3 i hi
theorem vSize (h : DV F d t w S) (i : Nat) (hi : i < 8) : Calls Tryz.prog 167 #[.pointer (some ⟨t i, 0, none⟩)] w fun e w' => e = .returned (.int .u64 ((S.lns.length : Int) * 64)) ∧ w = w' := by
  obtain ⟨_, L, rfl, h3, _⟩ := h
  exact thSize w d L S h3 i hi
theorem vThread (h : DV F d t w S) (i : Nat) (hi : i < 8) : Calls Tryz.prog 24 #[.pointer (some ⟨d, 0, none⟩), .int .i64 (i : Int)] w fun e w' => e = .returned (.pointer (some ⟨t i, 0, none⟩)) ∧ w = w' := by
  obtain ⟨_, L, rfl, h3, _⟩ := h
  exact devThread w d L S h3 i hi
end
/-- A device of n lines that is on, with those words. -/
structure On (S : DevS) (n : Nat) (xs : List Int) (N : Nat) : Prop where
  good : Good S N
  nl : S.lns.length = n
  cur : S.cur = xs
  off : S.off = false
  armed : S.armed = false
  err : ∀ j, (S.thr j).err = 0
theorem new_on (xs : List Int) (n : Nat) (hx : xs.length = 8 * n) : On (newS xs n) n xs 0 := by
  refine ⟨⟨by simpa [newS] using hx, by simpa [newS] using hx, fun q l hl => ?_, fun i hi => ⟨Nat.le_refl _, fun x c hc => by simp [newS] at hc⟩⟩, by simp [newS], rfl, rfl, rfl, fun _ => rfl⟩
  simp only [newS, List.getElem?_replicate] at hl
  split at hl
  · injection hl with hl; subst hl; simp
  · cases hl
theorem On.length {S : DevS} {n : Nat} {xs : List Int} {N : Nat} (h : On S n xs N) : xs.length = 8 * n := by rw [← h.cur, h.good.nc, h.nl]
theorem On.mono {S : DevS} {n : Nat} {xs : List Int} {N M : Nat} (h : On S n xs N) (hM : N ≤ M) : On S n xs M := ⟨h.good.mono hM, h.nl, h.cur, h.off, h.armed, h.err⟩
theorem On.store {S : DevS} {n : Nat} {xs : List Int} {N : Nat} (h : On S n xs N) (i k : Nat) (hk : k < 8 * n) (v : Int) : On (S.store i (8 * (k : Int)) v) n (xs.set k v) (N + 1) := by
  have hG := h.good.store i (8 * (k : Int)) v (by omega)
  have hw : S.wordB (8 * (k : Int)) = true := by unfold DevS.wordB; simp [h.nl]; omega
  have hq : ((8 * (k : Int)) / 8).toNat = k := by omega
  have hE : S.store i (8 * (k : Int)) v = ({ S with exec := IntKind.u64.wrap (S.exec + 1) } : DevS).write k v := by
    unfold DevS.store
    rw [hw, hq]
    simp [DevS.cntB, DevS.cnt, DevS.onB, h.off, h.armed]
  rw [hE] at hG ⊢
  exact ⟨hG, by simp [DevS.write, h.nl], by show S.cur.set k v = _; rw [h.cur], h.off, h.armed, h.err⟩
/-- What a thread loads. -/
def LdV (T : Nat) (xs : List Int) (w : World) : Prop := ∀ W, Below w.heap.size w W → ∀ (k : Nat) (v : Int), xs[k]? = some v → Calls Tryz.prog 25 #[.pointer (some ⟨T, 0, none⟩), .int .u64 (8 * (k : Int))] W fun e w' => e = .returned (.int .u64 v) ∧ W = w'
theorem LdV.below {T : Nat} {xs : List Int} {w w' : World} (h : LdV T xs w) (hb : Below w.heap.size w w') : LdV T xs w' := fun W hW => h W (hb.trans (hW.mono hb.size))
theorem ldV {F : Nat → Prop} {d : Nat} {t : Nat → Nat} {w : World} {S : DevS} {n N : Nat} {xs : List Int} (h : DV F d t w S) (hO : On S n xs N) (i : Nat) (hi : i < 8) : LdV (t i) xs w :=
  fun W hW k v hk => vLoad (h.below hW) i hi hO.off k v (by rw [hO.cur]; exact hk)
end Go.Proofs.YtjaohgnloddgfaaGreatDoor

namespace Go.Proofs.YtjaohgnloddgfaaGreatDoor
open Go.RowKit
set_option linter.unusedVariables false
set_option linter.unusedSimpArgs false

def gt0 (xs : List Int) (k : Nat) : Int := xs.getD k 0
def swL (xs : List Int) (i j : Nat) : List Int := (xs.set i (gt0 xs j)).set j (gt0 xs i)
theorem gt0_eq {xs : List Int} {k : Nat} (h : k < xs.length) : gt0 xs k = xs[k] := by simp [gt0, h]
theorem length_swL (xs : List Int) (i j : Nat) : (swL xs i j).length = xs.length := by simp [swL]
theorem gt0_swL {xs : List Int} {i j : Nat} (hi : i < xs.length) (hj : j < xs.length) (k : Nat) : gt0 (swL xs i j) k = if k = j then gt0 xs i else if k = i then gt0 xs j else gt0 xs k := by
  unfold swL
  by_cases hk : k = j
  · subst hk; simp [gt0, hj]
  · by_cases hk2 : k = i
    · subst hk2; simp [gt0, hi, hk, show ¬ j = k from fun h => hk h.symm]
    · simp [gt0, hk, hk2, show ¬ j = k from fun h => hk h.symm, show ¬ i = k from fun h => hk2 h.symm]
theorem swL_perm {xs : List Int} {i j : Nat} (hi : i < xs.length) (hj : j < xs.length) : (swL xs i j).Perm xs := by
  have h := Array.swap_perm (xs := xs.toArray) (i := i) (j := j) (by simpa using hi) (by simpa using hj)
  have e : (xs.toArray.swap i j (by simpa using hi) (by simpa using hj)).toList = swL xs i j := by
    simp [swL, gt0_eq hi, gt0_eq hj]
  rw [← e]
  exact h.toList
/-- The same words, in another order between a and b. -/
structure PO (a b : Nat) (xs ys : List Int) : Prop where
  len : ys.length = xs.length
  perm : ys.Perm xs
  out : ∀ k, k < a ∨ b ≤ k → gt0 ys k = gt0 xs k
theorem PO.refl (a b : Nat) (xs : List Int) : PO a b xs xs := ⟨rfl, List.Perm.refl _, fun _ _ => rfl⟩
theorem PO.trans {a b : Nat} {xs ys zs : List Int} (h : PO a b xs ys) (h2 : PO a b ys zs) : PO a b xs zs := ⟨h2.len.trans h.len, h2.perm.trans h.perm, fun k hk => (h2.out k hk).trans (h.out k hk)⟩
theorem PO.mono {a b c d : Nat} {xs ys : List Int} (h : PO a b xs ys) (h1 : c ≤ a) (h2 : b ≤ d) : PO c d xs ys := ⟨h.len, h.perm, fun k hk => h.out k (by omega)⟩
theorem PO.swap {a b : Nat} {xs ys : List Int} (h : PO a b xs ys) {i j : Nat} (hi : a ≤ i ∧ i < b) (hj : a ≤ j ∧ j < b) (hb : b ≤ xs.length) : PO a b xs (swL ys i j) := by
  have hl := h.len
  refine ⟨(length_swL _ _ _).trans hl, (swL_perm (by omega) (by omega)).trans h.perm, fun k hk => ?_⟩
  rw [gt0_swL (by omega) (by omega), if_neg (by omega), if_neg (by omega)]
  exact h.out k hk
def SortedOn (a b : Nat) (ys : List Int) : Prop := ∀ p q, a ≤ p → p < q → q < b → gt0 ys p ≤ gt0 ys q
/-- Sorted but for the word at j, which may be too far right. -/
def Hole (a i j : Nat) (ys : List Int) : Prop := ∀ p q, a ≤ p → p < q → q ≤ i → q ≠ j → gt0 ys p ≤ gt0 ys q
theorem Hole.start {a i : Nat} {ys : List Int} (h : SortedOn a i ys) : Hole a i i ys := fun p q h1 h2 h3 h4 => h p q h1 h2 (by omega)
theorem Hole.swap {a i j : Nat} {ys : List Int} (h : Hole a i (j + 1) ys) (hj : a ≤ j) (hi : j + 1 ≤ i) (hl : i < ys.length) (hlt : gt0 ys (j + 1) < gt0 ys j) : Hole a i j (swL ys (j + 1) j) := by
  intro p q h1 h2 h3 h4
  have e : ∀ k, gt0 (swL ys (j + 1) j) k = if k = j then gt0 ys (j + 1) else if k = j + 1 then gt0 ys j else gt0 ys k := fun k => gt0_swL (by omega) (by omega) k
  by_cases hq1 : q = j + 1
  · subst hq1
    have eq : gt0 (swL ys (j + 1) j) (j + 1) = gt0 ys j := by rw [e, if_neg (by omega), if_pos rfl]
    rw [eq]
    by_cases hp : p = j
    · rw [hp, e, if_pos rfl]; omega
    · rw [e, if_neg hp, if_neg (by omega)]
      exact h p j h1 (by omega) (by omega) (by omega)
  · have eq : gt0 (swL ys (j + 1) j) q = gt0 ys q := by rw [e, if_neg h4, if_neg hq1]
    rw [eq]
    by_cases hp : p = j
    · rw [hp, e, if_pos rfl]; exact h (j + 1) q (by omega) (by omega) h3 hq1
    · by_cases hp2 : p = j + 1
      · rw [hp2, e, if_neg (by omega), if_pos rfl]; exact h j q (by omega) (by omega) h3 hq1
      · rw [e, if_neg hp, if_neg hp2]; exact h p q h1 h2 h3 hq1
theorem Hole.done {a i j : Nat} {ys : List Int} (h : Hole a i j ys) (hj : a ≤ j ∧ j ≤ i) (hd : j = a ∨ gt0 ys (j - 1) ≤ gt0 ys j) : SortedOn a (i + 1) ys := by
  intro p q h1 h2 h3
  by_cases hq : q = j
  · subst hq
    rcases hd with hd | hd
    · omega
    · by_cases hp : p = q - 1
      · rw [hp]; exact hd
      · have := h p (q - 1) h1 (by omega) (by omega) (by omega)
        omega
  · exact h p q h1 h2 (by omega) hq
theorem SortedOn.pairwise {ys : List Int} {n : Nat} (hn : ys.length = n) (h : SortedOn 0 n ys) : ys.Pairwise (· ≤ ·) := by
  rw [List.pairwise_iff_getElem]
  intro i j hi hj hij
  have := h i j (Nat.zero_le _) hij (by omega)
  rwa [gt0_eq hi, gt0_eq hj] at this
end Go.Proofs.YtjaohgnloddgfaaGreatDoor

namespace Go.Proofs.YtjaohgnloddgfaaGreatDoor
open Go.RowKit
set_option linter.unusedVariables false
set_option linter.unusedSimpArgs false

section
variable {S : DevS} {n N : Nat} {xs : List Int}
theorem On.ctr (h : On S n xs N) (ex : Int) : On ({ S with exec := ex } : DevS) n xs N := ⟨h.good.ctr S.off S.armed S.left ex, h.nl, h.cur, h.off, h.armed, h.err⟩
theorem On.cnt (h : On S n xs N) (i : Nat) : S.cntB true = true ∧ S.cnt i true = { S with exec := IntKind.u64.wrap (S.exec + 1) } := cnt_ok h.off h.armed
theorem On.flush (h : On S n xs N) (i k : Nat) (hk : k < 8 * n) (hN : N < 1000000) : On (S.flush i (8 * (k : Int))) n xs (N + 1) := by
  have hG := h.good.flush i (8 * (k : Int)) (by omega) (by omega)
  have hin : S.inB (8 * (k : Int)) = true := by unfold DevS.inB; simp [h.nl]; omega
  obtain ⟨c1, c2⟩ := h.cnt i
  have hE : S.flush i (8 * (k : Int)) = ({ S with exec := IntKind.u64.wrap (S.exec + 1) } : DevS).note i ((8 * (k : Int)) / 64).toNat := by
    unfold DevS.flush
    rw [hin, c1, if_pos rfl, c2]
  rw [hE] at hG ⊢
  refine ⟨hG, h.nl, h.cur, h.off, h.armed, fun j => ?_⟩
  by_cases hj : j = i
  · subst hj; simp [DevS.note, h.err]
  · simp [DevS.note, hj, h.err]
theorem On.fence (h : On S n xs N) (i : Nat) (hi : i < 8) (hN : N < 1000000) : On (S.fence i) n xs (N + 1) := by
  have hG := (h.good.fence hi (by omega)).mono (Nat.le_succ N)
  obtain ⟨c1, c2⟩ := h.cnt i
  have hE : S.fence i = ((({ S with exec := IntKind.u64.wrap (S.exec + 1) } : DevS).upto (({ S with exec := IntKind.u64.wrap (S.exec + 1) } : DevS).due i))).clearN i := by
    unfold DevS.fence; rw [c1, if_pos rfl, c2]
  rw [hE] at hG ⊢
  refine ⟨hG, ?_, h.cur, h.off, h.armed, fun j => ?_⟩
  · show (DevS.upto _ _).lns.length = n
    rw [(length_upto _).2]; exact h.nl
  · by_cases hj : j = i
    · subst hj; simp [DevS.clearN, DevS.upto, h.err]
    · simp [DevS.clearN, hj, DevS.upto, h.err]
/-- A valid instruction of a device of n lines. -/
def vIns (n : Nat) (p : Ins) : Prop := insB p = true ∧ ∃ k : Nat, k < 8 * n ∧ p.2.1 = 8 * (k : Int)
/-- The words after an instruction. -/
def insX (xs : List Int) (p : Ins) : List Int := if p.1 = 1 then xs.set (p.2.1 / 8).toNat p.2.2 else xs
theorem On.ins (h : On S n xs N) (i : Nat) (hi : i < 8) (hN : N < 1000000) {p : Ins} (hp : vIns n p) : On (S.exec1 i p) n (insX xs p) (N + 1) := by
  obtain ⟨op, of, v⟩ := p
  obtain ⟨h1, k, hk, hof⟩ := hp
  dsimp only at hof
  subst hof
  unfold DevS.exec1 insX
  dsimp only
  split
  · rw [show (8 * (k : Int) / 8).toNat = k by omega]; exact h.store i k hk v
  · split
    · exact h.flush i k hk hN
    · exact h.fence i hi hN
end
section
variable {ws : List (Int × Int)} {n : Nat}
theorem storesP_lt {j : Nat} (hj : j < ws.length) : (storesP ws).getD j (0, 0, 0) = (1, (ws.getD j (0, 0)).1, (ws.getD j (0, 0)).2) := by
  unfold storesP
  rw [List.append_assoc, List.getD_eq_getElem?_getD, List.getElem?_append_left (by simpa [insSt] using hj)]
  simp [insSt, hj]
theorem storesP_ge {j : Nat} (hj : ws.length ≤ j) : ((storesP ws).getD j (0, 0, 0)).1 ≠ 1 := by
  unfold storesP
  rw [List.append_assoc, List.getD_eq_getElem?_getD, List.getElem?_append_right (by simpa [insSt] using hj)]
  generalize j - (insSt ws).length = q
  rw [List.getElem?_append]
  split
  · rename_i hq
    rw [List.getElem?_eq_getElem hq]
    simp [insFl]
  · generalize q - (insFl (cpt (starts ws))).length = r
    cases r with
    | zero => simp
    | succ r => simp
theorem length_storesP : (storesP ws).length = ws.length + (cpt (starts ws)).length + 1 := by simp [storesP, insSt, insFl]; omega
theorem storesP_v (hw : ∀ p ∈ ws, ∃ k : Nat, k < 8 * n ∧ p.1 = 8 * (k : Int)) (h0 : 0 < n) : ∀ q ∈ storesP ws, vIns n q := by
  intro q hq
  unfold storesP at hq
  rw [List.mem_append, List.mem_append] at hq
  rcases hq with (hq | hq) | hq
  · simp only [insSt, List.mem_map] at hq
    obtain ⟨p, hp, rfl⟩ := hq
    obtain ⟨k, hk, he⟩ := hw p hp
    exact ⟨by simp [insB], k, hk, he⟩
  · simp only [insFl, List.mem_map] at hq
    obtain ⟨l, hl, rfl⟩ := hq
    rw [mem_cpt'] at hl
    simp only [starts, List.mem_map] at hl
    obtain ⟨p, hp, rfl⟩ := hl
    obtain ⟨k, hk, he⟩ := hw p hp
    refine ⟨by simp [insB], k / 8 * 8, by omega, ?_⟩
    show startOf p.1 = _
    rw [he]
    unfold startOf
    omega
  · simp only [List.mem_singleton] at hq
    subst hq
    exact ⟨by simp [insB], 0, by omega, by simp⟩
theorem vIns.num {p : Ins} (h : vIns n p) (hn : n ≤ 1000000) : (0 ≤ p.2.1 ∧ p.2.1 < 18446744073709551616) ∧ 1 ≤ p.1 ∧ p.1 ≤ 3 := by
  obtain ⟨h1, k, hk, he⟩ := h
  simp only [insB, Bool.and_eq_true, decide_eq_true_iff] at h1
  exact ⟨by omega, h1⟩
end
end Go.Proofs.YtjaohgnloddgfaaGreatDoor

namespace Go.Proofs.YtjaohgnloddgfaaGreatDoor
open Go.RowKit
set_option linter.unusedVariables false

/-- The table of four bits lies in its variable. -/
def Tab (w : World) : Prop := 0 < w.heap.size ∧ ∀ j, j < 16 → w.cell? ⟨0, j, none⟩ = some (.int .u32 (nibT.getD j 0 : Nat))
theorem Tab.below {w w' : World} (h : Tab w) (hb : Below w.heap.size w w') : Tab w' := ⟨Nat.lt_of_lt_of_le h.1 hb.size, fun j hj => (hb.cell (p := ⟨0, j, none⟩) h.1).trans (h.2 j hj)⟩
theorem Tab.bx {w : World} (h : Tab w) (x : BX w) : Tab x.w := h.below x.below

theorem nib_lt (j : Nat) : nibT.getD j 0 < 4294967296 := by
  by_cases h : j < 16
  · have : ∀ j, j < 16 → nibT.getD j 0 < 4294967296 := by decide
    exact this j h
  · rw [List.getD_eq_getElem?_getD, List.getElem?_eq_none (show nibT.length ≤ j by simp [nibT]; omega)]; decide

set_option maxRecDepth 100000 in
set_option maxHeartbeats 1000000 in
theorem crcStep (w : World) (hT : Tab w) (r b : Nat) (hr : r < 4294967296) (hb : b < 256) :
    Calls Tryz.prog 145 #[.int .u32 (r : Int), .int .u8 (b : Int)] w fun e w' => e = .returned (.int .u32 ((crTi 8 (r ^^^ b) : Nat) : Int)) ∧ w = w' := by
  obtain ⟨x, hx⟩ : ∃ x, r ^^^ b = x := ⟨_, rfl⟩
  have hx32 : x < 4294967296 := by rw [← hx]; exact Nat.xor_lt_two_pow (n := 32) (by omega) (by omega)
  have HE : Hid (crTi 8 x = (x / 16 ^^^ nibT.getD (x % 16) 0) / 16 ^^^ nibT.getD ((x / 16 ^^^ nibT.getD (x % 16) 0) % 16) 0) := by
    show _ = _
    rw [show (8 : Nat) = 4 + 4 from rfl, crTi_add, crTi_four, crTi_four]
  rw [hx]
  have e1 : IntKind.u32.wrap (b : Int) = (b : Int) := IntWalk.u32_in _ (by omega)
  have e2 : bits .xor .u32 (r : Int) (b : Int) = ((x : Nat) : Int) := by rw [u32_xor_nat _ _ hr (by omega), hx]
  have f1 := hT.2 (x % 16) (by omega)
  obtain ⟨n1, hn1⟩ : ∃ n1, nibT.getD (x % 16) 0 = n1 := ⟨_, rfl⟩
  have hl1 : n1 < 4294967296 := by rw [← hn1]; exact nib_lt _
  obtain ⟨y, hy⟩ : ∃ y, x / 16 ^^^ n1 = y := ⟨_, rfl⟩
  have hy32 : y < 4294967296 := by rw [← hy]; exact Nat.xor_lt_two_pow (n := 32) (by omega) (by omega)
  have e3 : bits .xor .u32 ((x : Int) / 16) (n1 : Int) = ((y : Nat) : Int) := by
    rw [show ((x : Int) / 16) = ((x / 16 : Nat) : Int) by omega, u32_xor_nat _ _ (by omega) hl1, hy]
  have f2 := hT.2 (y % 16) (by omega)
  obtain ⟨n2, hn2⟩ : ∃ n2, nibT.getD (y % 16) 0 = n2 := ⟨_, rfl⟩
  have hl2 : n2 < 4294967296 := by rw [← hn2]; exact nib_lt _
  rw [hn1] at f1
  rw [hn2] at f2
  have e4 : bits .xor .u32 ((y : Int) / 16) (n2 : Int) = ((y / 16 ^^^ n2 : Nat) : Int) := by
    rw [show ((y : Int) / 16) = ((y / 16 : Nat) : Int) by omega, u32_xor_nat _ _ (by omega) hl2]
  have m1 : bits .and .u32 (x : Int) 15 = ((x % 16 : Nat) : Int) := by
    rw [show (15 : Int) = ((15 : Nat) : Int) from rfl, u32_and_nat _ _ hx32 (by omega), nat_mask4]
  have m2 : bits .and .u32 (y : Int) 15 = ((y % 16 : Nat) : Int) := by
    rw [show (15 : Int) = ((15 : Nat) : Int) from rfl, u32_and_nat _ _ hy32 (by omega), nat_mask4]
  have hx16 : x % 16 < 16 := by omega
  have hy16 : y % 16 < 16 := by omega
  have HF : Hid (crTi 8 x = y / 16 ^^^ n2) := by
    show _ = _
    rw [HE.out, hn1, hy, hn2]
  clear hn1 hn2 HE hx hy hT
  go_enter Tryz.func145, Tryz.ntmps145
  go_wp2
  go_ret
  refine ⟨?_, rfl⟩
  rw [HF.out]; rfl

theorem cr_step (j r v : Nat) (hj : j < 8) : crTi (8 * (8 - j)) (r ^^^ v) = crTi (8 * (8 - (j + 1))) (crTi 8 (r ^^^ v % 256) ^^^ v / 256) := by
  rw [show 8 * (8 - j) = 8 + 8 * (8 - (j + 1)) by omega, crTi_add]
  congr 1
  conv => lhs; rw [split_xor v 8]
  rw [Nat.xor_comm (v / 2 ^ 8 * 2 ^ 8), ← Nat.xor_assoc, crTi_xor, crTi_shift]

theorem xor_all32 (v : Nat) (hv : v < 4294967296) : bits .xor .u32 (if IntKind.u32.signed = true then -1 else IntKind.u32.max) (v : Int) = ((4294967295 ^^^ v : Nat) : Int) := by
  show bits .xor .u32 ((4294967295 : Nat) : Int) (v : Int) = _
  rw [u32_xor_nat _ _ (by omega) hv]

set_option maxRecDepth 100000 in
set_option maxHeartbeats 1000000 in
theorem crcWords (w : World) (hT : Tab w) (A : Option Addr) (n c : Nat) (xs : List Int) (hx : xs.length = n) (hn : n ≤ 1000) (hR : Rd .u64 w A xs) (hF : Fits xs) :
    Calls Tryz.prog 134 #[.slice A n c] w fun e w' => e = .returned (.int .u32 (sumI xs)) ∧ w = w' := by
  have HT := Lib.hid hT
  have HR := Lib.hid hR
  have HX := Lib.hid hx
  have HF := Lib.hid hF
  obtain ⟨F, hFF⟩ : ∃ F, crW 4294967295 (nats xs) = F := ⟨_, rfl⟩
  have hF32 : F < 4294967296 := by rw [← hFF]; exact crW_lt _ _ (by decide) (nats_lt hF)
  have HS : Hid (sumI xs = ((4294967295 ^^^ F : Nat) : Int)) := by show _ = _; unfold sumI crSum; rw [hFF]
  have HFF := Lib.hid hFF
  clear hT hR hx hF hFF
  go_enter Tryz.func134, Tryz.ntmps134
  go_wp2
  go_loopw [8, 3, 5, 10, 11, 12, 13, 14, 15, 16, 17, 18, 19, 20, 21, 9] (fun i r _ _ _ _ _ _ _ _ _ _ _ _ _ _ wr => ∃ k r0 : Nat, k ≤ n ∧ i = .int .i64 k ∧ r = .int .u32 (r0 : Int) ∧ r0 < 4294967296 ∧ crW r0 (nats (xs.drop k)) = F ∧ w = wr) (fun i _ _ _ _ _ _ _ _ _ _ _ _ _ _ _ _ => n - (intOf i).toNat)
  case atStart => exact ⟨0, 4294967295, by omega, rfl, rfl, by omega, HFF.out, rfl⟩
  case round =>
    obtain ⟨k, r0, hk, rfl, rfl, hr0, hcr, rfl⟩ := hrel
    have HCR := Lib.hid hcr
    clear hcr
    by_cases hlt : k < n
    · have hlt' : (k : Int) < (n : Int) := by omega
      have hkx : k < xs.length := by rw [HX.out]; exact hlt
      obtain ⟨b1, o1, rfl, hb1, hc1⟩ := HR.out.at_ hkx
      have h64 := HF.out _ (List.getElem_mem hkx)
      obtain ⟨v0, hv0⟩ := Int.eq_ofNat_of_zero_le h64.1
      rw [hv0] at hc1 h64
      have hv64 : v0 < 18446744073709551616 := by omega
      have HG : Hid (crW (crTi 64 (r0 ^^^ v0)) (nats (xs.drop (k + 1))) = F) := by
        show _ = _
        have := HCR.out
        rw [List.drop_eq_getElem_cons hkx] at this
        unfold nats at this
        rw [List.map_cons, hv0, Int.toNat_natCast] at this
        exact this
      obtain ⟨G, hG⟩ : ∃ G, crTi 64 (r0 ^^^ v0) = G := ⟨_, rfl⟩
      have hG32 : G < 4294967296 := by
        rw [← hG]
        exact crW_lt [v0] r0 (by omega) (fun w hw => by rw [List.mem_singleton.1 hw]; omega)
      have HGG := Lib.hid hG
      rw [hG] at HG
      clear h64 hv0 hG HCR
      go_wp2
      go_loopw [12, 3, 5, 13, 14, 15, 16, 17, 18, 19, 20] (fun i r v _ _ _ _ _ _ _ _ wr => ∃ j r1 v1 : Nat, j ≤ 8 ∧ i = .int .i64 j ∧ r = .int .u32 (r1 : Int) ∧ r1 < 4294967296 ∧ v = .int .u64 (v1 : Int) ∧ v1 < 2 ^ (64 - 8 * j) ∧ crTi (8 * (8 - j)) (r1 ^^^ v1) = G ∧ w = wr) (fun i _ _ _ _ _ _ _ _ _ _ _ => 8 - (intOf i).toNat)
      case atStart => exact ⟨0, r0, v0, by omega, rfl, rfl, hr0, rfl, by omega, HGG.out, rfl⟩
      case round =>
        obtain ⟨j, r1, v1, hj, rfl, rfl, hr1, rfl, hv1, hst, rfl⟩ := hrel
        have HST := Lib.hid hst
        have HV := Lib.hid hv1
        have hv1' : v1 < 18446744073709551616 := Nat.lt_of_lt_of_le hv1 (Nat.pow_le_pow_right (by omega) (show 64 - 8 * j ≤ 64 by omega))
        clear hst hv1
        by_cases hj8 : j < 8
        · have hj8' : (j : Int) < 8 := by omega
          have e1 : IntKind.u8.wrap (v1 : Int) = ((v1 % 256 : Nat) : Int) := by rw [IntKind.wrap_u8']; omega
          have hr2 : crTi 8 (r1 ^^^ v1 % 256) < 4294967296 := crTi_lt 8 (Nat.xor_lt_two_pow (n := 32) (by omega) (by omega))
          go_wp2_with (go_at_call 145; refine (crcStep _ HT.out r1 (v1 % 256) hr1 (by omega)).mono ?_; rintro e w' ⟨rfl, rfl⟩)
          go_roundw
          case rel =>
            refine ⟨j + 1, crTi 8 (r1 ^^^ v1 % 256), v1 / 256, by omega, by go_num, rfl, hr2, by congr 1, ?_, ?_, by first | rfl | trivial⟩
            · have := HV.out
              rw [show 64 - 8 * j = 64 - 8 * (j + 1) + 8 by omega, Nat.pow_add] at this
              exact Nat.div_lt_of_lt_mul (by rw [Nat.mul_comm]; exact this)
            · rw [← cr_step j r1 v1 hj8]; exact HST.out
          case measure => simp [intOf]; omega
        · obtain rfl : j = 8 := by omega
          have hv0 : v1 = 0 := by have := HV.out; simpa using this
          have hrG : r1 = G := by have := HST.out; rw [hv0, Nat.xor_zero] at this; exact this
          subst hv0 hrG
          go_wp2
          go_roundw
          case rel => exact ⟨k + 1, r1, by omega, by go_num, rfl, hr1, HG.out, by first | rfl | trivial⟩
          case measure => simp [intOf]; omega
    · obtain rfl : k = n := by omega
      have hrF : r0 = F := by
        have := HCR.out
        rwa [List.drop_of_length_le (by rw [HX.out]; omega)] at this
      subst hrF
      have hall := xor_all32 r0 hr0
      go_wp2
      go_ret
      exact ⟨by rw [HS.out]; rfl, rfl⟩
end Go.Proofs.YtjaohgnloddgfaaGreatDoor

namespace Go.Proofs.YtjaohgnloddgfaaGreatDoor
open Go.RowKit
set_option linter.unusedVariables false

theorem info_u8d : (Tryz.prog.info? 5).map (fun i => (i.zero, i.size, i.bytes)) = some (some (.int .u8 0), 1, 1) := by kernel_rfl
set_option maxRecDepth 100000 in
set_option maxHeartbeats 2000000 in
theorem bytesOfD (w : World) (A : Option Addr) (n c : Nat) (ws : List Int) (hn : ws.length = n) (hb : n ≤ 32768) (hf : Fits ws) (hR : Rd .u64 w A ws) :
    Calls Tryz.prog 83 #[.slice A n c] w fun e w' => ∃ g, e = .returned (.slice (some ⟨g, 0, none⟩) (8 * n) (8 * n)) ∧ IB .u8 5 w' g (bytesL ws) ∧ w.heap.size ≤ g ∧ Below w.heap.size w w' := by
  have HR := Lib.hid hR
  have HN := Lib.hid hn
  have HF := Lib.hid hf
  have hmk := fun W => run_make_z (P := Tryz.prog) 87 5 .u8 .i64 .i64 ((n : Int) * 8) (8 * n) (by omega) Tryz.underlying87 1 info_u8d (by omega) (by omega) W
  clear hR hn hf
  go_enter Tryz.func83, Tryz.ntmps83
  go_wp2
  have HI0 : Hid (IB .u8 5 (w.alloc (.cells (ia .u8 (List.replicate (8 * n) (0 : Int))) 5)) w.heap.size (byPad ws 0)) := by
    show IB _ _ _ _ _
    rw [byPad_zero, HN.out]; exact IB.new _ _
  have HB0 : Hid (Below w.heap.size w (w.alloc (.cells (ia .u8 (List.replicate (8 * n) (0 : Int))) 5))) := by show Below _ _ _; (repeat (first | with_reducible exact Below.refl _ _ | with_reducible refine bl_alloc ?_ _ | with_reducible refine bl_drew ?_ | with_reducible refine bl_drewN ?_ _ | with_reducible refine bl_bx ?_ _ | with_reducible exact BX.below _ | with_reducible refine bl_set ?_ (by first | (exact Nat.le_refl _) | (simp; done) | (simp; omega)) _ | assumption))
  obtain ⟨g, hg⟩ : ∃ g, w.heap.size = g := ⟨_, rfl⟩
  obtain ⟨W, hW⟩ : ∃ W, w.alloc (.cells (ia .u8 (List.replicate (8 * n) (0 : Int))) 5) = W := ⟨_, rfl⟩
  rw [hg, hW] at HI0
  rw [hW] at HB0
  rw [hg, hW]
  have HG := Lib.hid hg
  clear hW hg hmk
  go_loopw [11, 4, 12, 13, 14, 15, 16, 17, 18, 19, 20, 21, 22, 23, 24, 25, 26, 27, 28] (fun i _ _ _ _ _ _ _ _ _ _ _ _ _ _ _ _ _ _ wr => ∃ k : Nat, k ≤ 8 * n ∧ i = .int .i64 k ∧ IB .u8 5 wr g (byPad ws k) ∧ Below w.heap.size w wr) (fun i _ _ _ _ _ _ _ _ _ _ _ _ _ _ _ _ _ _ _ => 8 * n - (intOf i).toNat)
  case atStart => exact ⟨0, by omega, rfl, HI0.out, HB0.out⟩
  case round =>
    clear HI0 HB0
    obtain ⟨k, hk, rfl, hI, hB⟩ := hrel
    by_cases hlt : k < 8 * n
    · have hlt' : (k : Int) < 8 * (n : Int) := by omega
      have hk8 : k / 8 < ws.length := by rw [HN.out]; omega
      have hkn : k / 8 < n := by omega
      obtain ⟨b, o, rfl, hbb, hc⟩ := HR.out.at_ hk8
      have hbw := hB.size
      have hc' : wr.cell? ⟨b, o + k / 8, none⟩ = some (.int .u64 ws[k / 8]) := (hB.cell (p := ⟨b, o + k / 8, none⟩) hbb).trans hc
      have hbl : b < wr.heap.size := by omega
      have hcg := hI.cell (i := k) (by rw [length_byPad ws k (by rw [HN.out]; omega), HN.out]; exact hlt)
      have hfz := hI.frozen k
      have hgl := hI.lt
      have hgg : b ≠ g := by rw [← HG.out]; omega
      have HBY : Hid (ws[k / 8] / 2 ^ (k % 8 * 8) % 256 = byteAt ws k) := by
        show _ = _
        unfold byteAt
        rw [List.getElem?_eq_getElem hk8]; rfl
      have HST := Lib.hid (byPad_set ws k (by rw [HN.out]; exact hlt))
      obtain ⟨v, hv⟩ : ∃ v, ws[k / 8] = v := ⟨_, rfl⟩
      rw [hv] at hc' HBY
      have HI := Lib.hid hI
      have HB := Lib.hid hB
      clear hv hc hI hB
      go_wp2
      rw [HBY.out]
      refine ⟨⟨k + 1, by omega, by go_num, ?_, HB.out.setCell (p := ⟨g, k, none⟩) (by show w.heap.size ≤ g; rw [HG.out]; exact Nat.le_refl _) _⟩, by simp [intOf]; omega⟩
      rw [← HST.out]
      exact HI.out.set k _
    · obtain rfl : k = 8 * n := by omega
      have hI' : IB .u8 5 wr g (bytesL ws) := by
        have := hI
        rwa [show 8 * n = 8 * ws.length by rw [HN.out], byPad_all] at this
      have HI := Lib.hid hI'
      have HB := Lib.hid hB
      clear hI hB hI'
      go_wp2
      go_ret
      exact ⟨g, rfl, HI.out, by rw [← HG.out]; exact Nat.le_refl _, HB.out⟩
end Go.Proofs.YtjaohgnloddgfaaGreatDoor

namespace Go.Proofs.YtjaohgnloddgfaaGreatDoor
open Go.RowKit
set_option linter.unusedVariables false

/-- What From leaves. -/
def FromPost (w : World) (S : DevS) (e : Ending) (w' : World) : Prop :=
  ∃ d L, e = .returned (.tuple #[.pointer (some ⟨d, 0, none⟩), .int .i64 0]) ∧ Dev w' d L S ∧ Below w.heap.size w w' ∧ ∀ b, Fp L b → w.heap.size ≤ b
set_option maxRecDepth 100000 in
set_option maxHeartbeats 2000000 in
theorem devFrom (w : World) (A : Option Addr) (n c : Nat) (ws : List Int) (h1 : 1 ≤ n) (h2 : n ≤ 4096) (hw : ws.length = 8 * n) (hf : Fits ws) (hR : Rd .u8 w A (bytesL ws)) :
    Calls Tryz.prog 81 #[.slice A (64 * n) c] w (FromPost w (newS ws n)) := by
  have HR := Lib.hid hR
  have HN := Lib.hid hw
  have HF := Lib.hid hf
  have hmk := fun W => run_make_z (P := Tryz.prog) 28 23 .u64 .i64 .i64 (8 * (n : Int)) (8 * n) (by omega) Tryz.underlying28 8 info_u64 (by omega) (by omega) W
  have q1 : (64 * (n : Int)) % 64 = 0 := by omega
  have q2 : (64 * (n : Int)) / 64 = (n : Int) := by omega
  have q3 : (64 * (n : Int)) / 8 = 8 * (n : Int) := by omega
  have q4 : ¬ (n : Int) > 4096 := by omega
  have q5 : ((64 * (n : Int)) == 0) = false := by simp; omega
  clear hR hw hf
  go_enter Tryz.func81, Tryz.ntmps81
  go_wp2
  have HI0 : Hid (IB .u64 23 (w.alloc (.cells (ia .u64 (List.replicate (8 * n) (0 : Int))) 23)) w.heap.size (partW ws 0)) := by
    show IB _ _ _ _ _
    rw [partW_zero, HN.out]; exact IB.new _ _
  have HB0 : Hid (Below w.heap.size w (w.alloc (.cells (ia .u64 (List.replicate (8 * n) (0 : Int))) 23))) := by show Below _ _ _; (repeat (first | with_reducible exact Below.refl _ _ | with_reducible refine bl_alloc ?_ _ | with_reducible refine bl_drew ?_ | with_reducible refine bl_drewN ?_ _ | with_reducible refine bl_bx ?_ _ | with_reducible exact BX.below _ | with_reducible refine bl_set ?_ (by first | (exact Nat.le_refl _) | (simp; done) | (simp; omega)) _ | assumption))
  obtain ⟨g, hg⟩ : ∃ g, w.heap.size = g := ⟨_, rfl⟩
  obtain ⟨W, hW⟩ : ∃ W, w.alloc (.cells (ia .u64 (List.replicate (8 * n) (0 : Int))) 23) = W := ⟨_, rfl⟩
  rw [hg, hW] at HI0
  rw [hW] at HB0
  rw [hg, hW]
  have HG := Lib.hid hg
  clear hW hg hmk
  go_loopw [26, 5, 6, 27, 28, 29, 30, 31, 32, 33, 34, 35, 36, 37, 38, 39, 40, 41, 42, 43, 44, 45] (fun i _ _ _ _ _ _ _ _ _ _ _ _ _ _ _ _ _ _ _ _ _ wr => ∃ k : Nat, k ≤ 64 * n ∧ i = .int .i64 k ∧ IB .u64 23 wr g (partW ws k) ∧ Below w.heap.size w wr) (fun i _ _ _ _ _ _ _ _ _ _ _ _ _ _ _ _ _ _ _ _ _ _ => 64 * n - (intOf i).toNat)
  case atStart => exact ⟨0, by omega, rfl, HI0.out, HB0.out⟩
  case round =>
    clear HI0 HB0
    obtain ⟨k, hk, rfl, hI, hB⟩ := hrel
    by_cases hlt : k < 64 * n
    · have hlt' : (k : Int) < 64 * (n : Int) := by omega
      have hk8 : k / 8 < ws.length := by rw [HN.out]; omega
      have hkn : k / 8 < 8 * n := by omega
      have hkb : k < (bytesL ws).length := by rw [length_bytesL, HN.out]; omega
      obtain ⟨b, o, rfl, hbb, hc⟩ := HR.out.at_ hkb
      rw [bytesL_get] at hc
      have hbw := hB.size
      have hc' : wr.cell? ⟨b, o + k, none⟩ = some (.int .u8 (byteAt ws k)) := (hB.cell (p := ⟨b, o + k, none⟩) hbb).trans hc
      have hbl : b < wr.heap.size := by omega
      have hcg : wr.cell? ⟨g, k / 8, none⟩ = some (.int .u64 (ws[k / 8] % 2 ^ (k % 8 * 8))) := by
        have h3 := hI.cell (i := k / 8) (by rw [length_partW]; exact hk8)
        have h4 := partW_get ws k (k / 8) hk8
        rw [partAt_now, List.getElem?_eq_getElem hk8] at h4
        rw [List.getElem?_eq_getElem (by rw [length_partW]; exact hk8)] at h4
        injection h4 with h4
        rw [h4] at h3
        exact h3
      have hfz := hI.frozen (k / 8)
      have hgl := hI.lt
      have hgg : b ≠ g := by rw [← HG.out]; omega
      have hvr := HF.out _ (List.getElem_mem hk8)
      have hor := or_byte ws[k / 8] hvr (k % 8) (by omega)
      have hbyt : byteAt ws k = ws[k / 8] / 2 ^ (k % 8 * 8) % 256 := by unfold byteAt; rw [List.getElem?_eq_getElem hk8]; rfl
      rw [← hbyt] at hor
      have hbr := byteAt_range ws k
      have HST := Lib.hid (partW_step ws k (by rw [HN.out]; omega))
      rw [List.getElem?_eq_getElem hk8] at HST
      obtain ⟨bt, hbt⟩ : ∃ bt, byteAt ws k = bt := ⟨_, rfl⟩
      obtain ⟨od, hod⟩ : ∃ od, ws[k / 8] % 2 ^ (k % 8 * 8) = od := ⟨_, rfl⟩
      obtain ⟨nw, hnw⟩ : ∃ nw, ws[k / 8] % 2 ^ ((k % 8 + 1) * 8) = nw := ⟨_, rfl⟩
      rw [hbt] at hc' hor hbr
      rw [hod] at hcg hor
      rw [hnw] at hor
      have HST2 : Hid ((partW ws k).set (k / 8) nw = partW ws (k + 1)) := by
        show _ = _
        rw [← hnw]; exact HST.out
      have e1 : IntKind.u64.wrap bt = bt := IntWalk.u64_in _ (by omega)
      have HI := Lib.hid hI
      have HB := Lib.hid hB
      clear hc hI hB hbt hod hnw hbyt hvr HST
      go_wp2
      refine ⟨⟨k + 1, by omega, by go_num, ?_, HB.out.setCell (p := ⟨g, k / 8, none⟩) (by show w.heap.size ≤ g; rw [HG.out]; exact Nat.le_refl _) _⟩, by simp [intOf]; omega⟩
      rw [← HST2.out]
      exact HI.out.set (k / 8) _
    · obtain rfl : k = 64 * n := by omega
      have hI' : IB .u64 23 wr g ws := by
        have := hI
        rwa [show 64 * n = 8 * ws.length by rw [HN.out]; omega, partW_all ws HF.out] at this
      have HI := Lib.hid hI'
      have HB := Lib.hid hB
      clear hI hB hI'
      go_wp2_with (go_at_call 72; refine (devOf _ g n ws HI.out HN.out h1 h2).mono ?_; rintro e w2 ⟨d, L, rfl, hD, hb, hF⟩; have HD := Lib.hid hD; have HB2 := Lib.hid hb; have HFP := Lib.hid hF; clear hD hb hF)
      go_ret2
      refine ⟨d, L, rfl, HD.out, HB.out.trans (HB2.out.mono HB.out.size), fun b hb => ?_⟩
      rcases HFP.out b hb with h | h
      · rw [h, ← HG.out]; exact Nat.le_refl _
      · exact Nat.le_trans HB.out.size h
end Go.Proofs.YtjaohgnloddgfaaGreatDoor

namespace Go.Proofs.YtjaohgnloddgfaaGreatDoor
open Go.RowKit
set_option linter.unusedVariables false

theorem info_int : (Tryz.prog.info? 3).map (fun i => (i.zero, i.size, i.bytes)) = some (some (.int .i64 0), 1, 8) := by kernel_rfl
theorem cellsI_one (w : World) (e : TypeId) (a : Value) : ∀ (j : Nat) (u : Value), [a][j]? = some u → (w.alloc (.cells #[a] e)).cell? ((⟨w.heap.size, 0, none⟩ : Addr).add j) = some u := by
  intro j u hu
  have h1 : (⟨w.heap.size, 0, none⟩ : Addr).add j = ⟨w.heap.size, 0 + j, none⟩ := by unfold Addr.add; split <;> simp_all
  rw [h1, Nat.zero_add, (CB.new w e #[a]).cell]
  simpa using hu
theorem i64_one (a : Int) : ∀ u ∈ ([.int .i64 a] : List Value), u.oneCell' = true := by
  intro u hu
  simp only [List.mem_singleton] at hu
  subst hu; rfl
/-- The number of stores of a line that are not persistent. -/
def hlen (S : DevS) (q : Nat) : Nat := (S.lns[q]?.map (·.hist.length)).getD 0
def dirtyL (S : DevS) (k : Nat) : List Nat := (List.range k).filter fun q => decide (0 < hlen S q)
theorem dirtyL_step (S : DevS) (k : Nat) : dirtyL S (k + 1) = dirtyL S k ++ (if 0 < hlen S k then [k] else []) := by
  unfold dirtyL
  rw [List.range_succ, List.filter_append]
  by_cases h : 0 < hlen S k
  · simp [h]
  · simp [h]
theorem dirtyL_le (S : DevS) : ∀ k, (dirtyL S k).length ≤ k := by
  intro k
  exact Nat.le_trans (List.length_filter_le _ _) (by simp)
def nints (xs : List Nat) : List Value := xs.map fun (q : Nat) => Value.int .i64 (q : Int)
theorem length_nints (xs : List Nat) : (nints xs).length = xs.length := by simp [nints]
/-- What Dirty leaves. -/
def DirtyPost (w : World) (S : DevS) (e : Ending) (w' : World) : Prop :=
  ∃ A c, e = .returned (.slice A (dirtyL S S.lns.length).length c) ∧ Sl 3 1 w' A (dirtyL S S.lns.length).length c (nints (dirtyL S S.lns.length)) ∧ (∀ b, OwnB A b → w.heap.size ≤ b) ∧ Below w.heap.size w w'
set_option maxRecDepth 100000 in
set_option maxHeartbeats 2000000 in
theorem devDirty (w : World) (d : Nat) (L : Lay) (S : DevS) (h : Dev w d L S) :
    Calls Tryz.prog 108 #[.pointer (some ⟨d, 0, none⟩)] w (DirtyPost w S) := by
  have l2 := h.lcell
  have dl := h.lt
  obtain ⟨cs, hcb, hsz, hcs⟩ := h.lin
  obtain ⟨n, hn⟩ : ∃ n, S.lns.length = n := ⟨_, rfl⟩
  have hn2 : n ≤ 4096 := by rw [← hn]; exact h.nl.2
  have HCL : Hid (∀ q, q < n → w.cell? ⟨L.lb, q * 2 + 1, none⟩ = some (.slice (L.ha q) (hlen S q) (L.hc q))) := by
    intro q hq
    have hq' : q < S.lns.length := by omega
    rw [hcb.cell, show q * 2 + 1 = 2 * q + 1 by omega, (hcs q hq').2]
    unfold hlen
    rw [List.getElem?_eq_getElem hq']; rfl
  have lbl := hcb.lt
  rw [hn] at l2
  unfold DirtyPost
  rw [hn]
  clear h hcb hsz hcs
  go_enter Tryz.func108, Tryz.ntmps108
  go_wp2
  go_loopw [12, 3, 4, 13, 14, 15, 16, 17, 18, 19, 20, 21, 22, 23, 24, 25, 26, 27, 28, 29] (fun i s _ _ _ _ _ _ _ _ _ _ _ _ _ _ _ _ _ _ wr => ∃ (k : Nat) (A : Option Addr) (c : Nat), k ≤ n ∧ i = .int .i64 k ∧ s = .slice A (dirtyL S k).length c ∧ Sl 3 1 wr A (dirtyL S k).length c (nints (dirtyL S k)) ∧ (∀ b, OwnB A b → w.heap.size ≤ b) ∧ Below w.heap.size w wr) (fun i _ _ _ _ _ _ _ _ _ _ _ _ _ _ _ _ _ _ _ _ => n - (intOf i).toNat)
  case atStart => exact ⟨0, none, 0, by omega, rfl, rfl, Sl.nil, fun b hb => by simp [OwnB] at hb, Below.refl _ _⟩
  case round =>
    obtain ⟨k, A, c, hk, rfl, rfl, hS, hO, hB⟩ := hrel
    have HS := Lib.hid hS
    have HO := Lib.hid hO
    have HB := Lib.hid hB
    have l2' : wr.cell? ⟨d, 2, none⟩ = some (.slice (some ⟨L.lb, 0, none⟩) n n) := (hB.cell (p := ⟨d, 2, none⟩) dl).trans l2
    have hbs := hB.size
    have dl' : d < wr.heap.size := by omega
    have lbl' : L.lb < wr.heap.size := by omega
    clear hS hO hB
    by_cases hlt : k < n
    · have hc1 : wr.cell? ⟨L.lb, k * 2 + 1, none⟩ = some (.slice (L.ha k) (hlen S k) (L.hc k)) := (HB.out.cell (p := ⟨L.lb, k * 2 + 1, none⟩) lbl).trans (HCL.out k hlt)
      have HST := Lib.hid (dirtyL_step S k)
      have hle := dirtyL_le S k
      obtain ⟨dk, hdk⟩ : ∃ dk, dirtyL S k = dk := ⟨_, rfl⟩
      rw [hdk] at HST HS hle
      rw [hdk]
      obtain ⟨hl, hhl⟩ : ∃ hl, hlen S k = hl := ⟨_, rfl⟩
      rw [hhl] at hc1 HST
      clear hdk hhl
      by_cases h0 : 0 < hl
      · rw [if_pos h0] at HST
        have h0' : (hl : Int) > 0 := by omega
        go_wp2_with (at_builtin; refine wpList_append_sl rfl (.tmp 25) (.tmp 27) 45 rfl 3 (.int .i64 0) 1 8 rfl (by omega) Tryz.underlying45 info_int (by omega) A dk.length c (nints dk) ⟨wr.heap.size, 0, none⟩ 1 1 [.int .i64 (k : Int)] rfl rfl (HS.out.keep (fun b hb => Below.heap_alloc _ _ _ (HS.out.lt hb))) rfl (by omega) (cellsI_one wr 3 _) (i64_one _) (by omega) ?_; intro A2 c2 w2 HO2 HC2 HW2 HG2)
        refine ⟨⟨k + 1, A2, c2, by omega, by go_num, by rw [HST.out, List.length_append]; rfl, ?_, ?_, ?_⟩, by simp [intOf]; omega⟩
        · rw [HST.out, List.length_append]
          have := HO2.out
          simpa [nints] using this
        · intro b hb
          rcases HW2.out b hb with h | h
          · exact HO.out b h
          · have := HB.out.size; simp at h; omega
        · exact bl_ch (bl_alloc HB.out _) HC2.out (fun b hb => HO.out b hb)
      · rw [if_neg h0, List.append_nil] at HST
        have h0' : ¬ (hl : Int) > 0 := by omega
        go_wp2
        exact ⟨⟨k + 1, A, c, by omega, by go_num, by rw [HST.out], by rw [HST.out]; exact HS.out, HO.out, HB.out⟩, by simp [intOf]; omega⟩
    · obtain rfl : k = n := by omega
      go_wp2
      go_ret
      exact ⟨A, c, rfl, HS.out, HO.out, HB.out⟩
end Go.Proofs.YtjaohgnloddgfaaGreatDoor

namespace Go.Proofs.YtjaohgnloddgfaaGreatDoor
open Go.RowKit
set_option linter.unusedVariables false

def histL (S : DevS) (q : Nat) : List (Int × Int) := (S.lns[q]?.map (·.hist)).getD []
theorem hlen_histL (S : DevS) (q : Nat) : (histL S q).length = hlen S q := by
  unfold histL hlen
  cases S.lns[q]? with
  | none => rfl
  | some l => rfl
/-- How many stores of a line a choice selects. -/
def imgK (S : DevS) (cs : List Int) (q : Nat) : Nat := (cs[(dirtyL S S.lns.length).idxOf q % cs.length]?.getD 0).toNat % (hlen S q + 1)
/-- The words after the first k dirty lines. -/
def imgC (S : DevS) (K : Nat → Nat) (D : List Nat) (k : Nat) : List Int := (D.take k).foldl (fun xs q => applyW xs ((histL S q).take (K q))) S.pers
theorem imgC_step (S : DevS) (K : Nat → Nat) (D : List Nat) (k : Nat) (hk : k < D.length) : imgC S K D (k + 1) = applyW (imgC S K D k) ((histL S D[k]).take (K D[k])) := by
  unfold imgC
  rw [List.take_succ_eq_append_getElem hk, List.foldl_append]; rfl
theorem length_imgC (S : DevS) (K : Nat → Nat) (D : List Nat) : ∀ k, (imgC S K D k).length = S.pers.length := by
  intro k
  induction k with
  | zero => rfl
  | succ k ih =>
    by_cases hk : k < D.length
    · rw [imgC_step S K D k hk, length_applyW, ih]
    · unfold imgC at ih ⊢
      rw [List.take_of_length_le (by omega)] at ih ⊢
      exact ih
theorem mem_dirtyL {S : DevS} {k q : Nat} : q ∈ dirtyL S k ↔ q < k ∧ 0 < hlen S q := by unfold dirtyL; simp
theorem nodup_dirtyL (S : DevS) (k : Nat) : (dirtyL S k).Nodup := List.Pairwise.sublist List.filter_sublist List.nodup_range
section
variable {S : DevS} {N : Nat}
theorem hist_line (h : Good S N) (q : Nat) : ∀ p ∈ histL S q, ∃ k : Nat, p.1 = 8 * (k : Int) ∧ k / 8 = q := by
  intro p hp
  unfold histL at hp
  cases hl : S.lns[q]? with
  | none => rw [hl] at hp; simp at hp
  | some l =>
    rw [hl] at hp
    exact (h.ln q l hl).2.2 p hp
/-- The words after dirty lines, one by one. -/
theorem imgC_at (h : Good S N) (K : Nat → Nat) (D : List Nat) (hD : D.Nodup) (j : Nat) : ∀ k, k ≤ D.length → (imgC S K D k)[j]? = if j / 8 ∈ D.take k then (applyW S.pers ((histL S (j / 8)).take (K (j / 8))))[j]? else S.pers[j]? := by
  intro k
  induction k with
  | zero => intro _; simp [imgC]
  | succ k ih =>
    intro hk
    have hkl : k < D.length := by omega
    have ih := ih (by omega)
    rw [imgC_step S K D k hkl, List.take_succ_eq_append_getElem hkl]
    by_cases hq : D[k] = j / 8
    · have hnot : ¬ j / 8 ∈ D.take k := by
        intro hm
        obtain ⟨i, hi, hie⟩ := List.getElem_of_mem hm
        have hik : i < k := by simp at hi; omega
        rw [List.getElem_take] at hie
        have := (List.getElem_inj hD).1 (hie.trans hq.symm)
        omega
      rw [if_neg hnot] at ih
      rw [if_pos (by simp [hq]), hq]
      exact applyW_congr _ j _ _ (length_imgC S K D k) ih
    · rw [applyW_none _ j (fun p hp => by
        obtain ⟨i, hi1, hi2⟩ := hist_line h D[k] p (List.mem_of_mem_take hp)
        rw [hi1]; omega), ih]
      have : (j / 8 ∈ D.take k ++ [D[k]]) = (j / 8 ∈ D.take k) := by
        simp only [List.mem_append, List.mem_singleton, eq_iff_iff]
        constructor
        · rintro (h | h)
          · exact h
          · exact absurd h.symm hq
        · exact .inl
      simp only [this]
/-- What all dirty lines make of the words. -/
theorem imgC_all (h : Good S N) (K : Nat → Nat) : imgC S K (dirtyL S S.lns.length) (dirtyL S S.lns.length).length = (S.upto K).pers := by
  apply List.ext_getElem?
  intro j
  by_cases hj : j < S.pers.length
  · rw [imgC_at h K _ (nodup_dirtyL S _) j _ (Nat.le_refl _), List.take_length, upto_pers K j hj]
    have hl : j / 8 < S.lns.length := by have := h.np; omega
    have e1 : (S.lns[j / 8]?.map (·.hist)).getD [] = histL S (j / 8) := rfl
    rw [e1]
    by_cases hm : j / 8 ∈ dirtyL S S.lns.length
    · rw [if_pos hm]
    · rw [if_neg hm]
      have h0 : hlen S (j / 8) = 0 := Nat.eq_zero_of_not_pos (fun h0 => hm (mem_dirtyL.2 ⟨hl, h0⟩))
      have : histL S (j / 8) = [] := List.eq_nil_of_length_eq_zero (by rw [hlen_histL]; exact h0)
      rw [this]; simp [applyW]
  · rw [List.getElem?_eq_none (by rw [length_imgC]; omega), List.getElem?_eq_none (by rw [(length_upto K).1]; omega)]
end
end Go.Proofs.YtjaohgnloddgfaaGreatDoor

namespace Go.Proofs.YtjaohgnloddgfaaGreatDoor
open Go.RowKit
set_option linter.unusedVariables false

theorem Sl.rdW {w : World} {A : Option Addr} {n c : Nat} {xs : List Int} (h : Sl 23 1 w A n c (uints xs)) : Rd .u64 w A xs := by
  by_cases h0 : xs = []
  · exact .inl h0
  · have hlen : 0 < xs.length := List.length_pos_iff.2 h0
    obtain ⟨g, off, hA, hlt, _⟩ := h.at_ (j := 0) (by rw [length_uints]; exact hlen)
    refine .inr ⟨g, off, hA, hlt, fun i hi => ?_⟩
    obtain ⟨g', off', hA', _, hc⟩ := h.at_ (j := i) (by rw [length_uints]; exact hi)
    rw [hA] at hA'
    injection hA' with hA'
    injection hA' with e1 e2
    subst e1 e2
    rw [hc, get_uints xs i hi]
theorem fits_applyW (ws : List (Int × Int)) (hw : ∀ p ∈ ws, 0 ≤ p.2 ∧ p.2 < 18446744073709551616) : ∀ xs, Fits xs → Fits (applyW xs ws) := by
  induction ws with
  | nil => intro xs h; exact h
  | cons p ws ih =>
    intro xs h
    exact ih (fun q hq => hw q (by simp [hq])) _ (h.set _ (hw p (by simp)))
/-- What Image leaves: the bytes of a crash image. -/
def ImgPost (w : World) (S : DevS) (e : Ending) (w' : World) : Prop :=
  ∃ g K, e = .returned (.slice (some ⟨g, 0, none⟩) (8 * S.pers.length) (8 * S.pers.length)) ∧ (∀ q l, S.lns[q]? = some l → K q ≤ l.hist.length) ∧ IB .u8 5 w' g (bytesL (S.upto K).pers) ∧ w.heap.size ≤ g ∧ Below w.heap.size w w'
theorem upto_none0 (S : DevS) : (S.upto (fun _ => 0)).pers = S.pers := by
  apply List.ext_getElem?
  intro j
  by_cases hj : j < S.pers.length
  · rw [upto_pers _ j hj]; simp [applyW]
  · rw [List.getElem?_eq_none (by rw [(length_upto _).1]; omega), List.getElem?_eq_none (by omega)]
set_option maxRecDepth 100000 in
set_option maxHeartbeats 2000000 in
/-- Image without a choice. -/
theorem devImage_nil (w : World) (d : Nat) (L : Lay) (S : DevS) (h : Dev w d L S) (hf : Fits S.pers) (A : Option Addr) :
    Calls Tryz.prog 82 #[.pointer (some ⟨d, 0, none⟩), .slice A 0 0] w (ImgPost w S) := by
  have d0 : w.cell? ⟨d, 0, none⟩ = some (.slice (some ⟨L.pb, 0, none⟩) S.pers.length L.pc) := h.dev.cell_some (i := 0) rfl
  have dl := h.lt
  have hn := h.nl
  have hp := h.np
  have HCL := Lib.hid (cloneU w L.pb 0 S.pers.length L.pc S.pers rfl (by omega) (by omega) h.pers.rdW)
  have HF := Lib.hid hf
  obtain ⟨n, hnn⟩ : ∃ n, S.pers.length = n := ⟨_, rfl⟩
  have HN := Lib.hid hnn
  have hn5 : n ≤ 32768 := by omega
  unfold ImgPost
  rw [hnn] at d0 HCL ⊢
  clear h hf hnn hp
  go_enter Tryz.func82, Tryz.ntmps82
  go_wp2_with (first
    | (go_at_call 100; refine HCL.out.mono ?_; rintro e w1 ⟨g, c, rfl, hS, hg, hb⟩; have HS := Lib.hid hS; have HB := Lib.hid hb; have HG := Lib.hid hg; clear hS hb hg)
    | (go_at_call 83; refine (bytesOfD w1 _ n c S.pers HN.out hn5 HF.out HS.out.rdW).mono ?_; rintro e w2 ⟨g2, rfl, hI2, hg2, hb2⟩; have HI2 := Lib.hid hI2; have HB2 := Lib.hid hb2; have HG2 := Lib.hid hg2; clear hI2 hb2 hg2))
  go_ret
  refine ⟨g2, fun _ => 0, rfl, fun _ _ _ => Nat.zero_le _, ?_, Nat.le_trans HB.out.size HG2.out, HB.out.trans (HB2.out.mono HB.out.size)⟩
  rw [upto_none0]; exact HI2.out
end Go.Proofs.YtjaohgnloddgfaaGreatDoor

namespace Go.Proofs.YtjaohgnloddgfaaGreatDoor
open Go.RowKit
set_option linter.unusedVariables false
set_option linter.unusedSimpArgs false

section
variable {w : World} {g off n c : Nat} {xs : List Int}
theorem Rd.wd (h : Rd .u64 w (some ⟨g, off, none⟩) xs) {k : Nat} (hk : k < xs.length) : g < w.heap.size ∧ w.cell? ⟨g, off + k, none⟩ = some (.int .u64 xs[k]) := by
  obtain ⟨b, o, hA, hl, hc⟩ := h.at_ hk
  injection hA with hA
  injection hA with e1 e2
  subst e1 e2
  exact ⟨hl, hc⟩
set_option maxRecDepth 100000 in
set_option maxHeartbeats 1000000 in
theorem order2S (w : World) (hn : xs.length = n) (hm : n ≤ 1000) (hR : Rd .u64 w (some ⟨g, off, none⟩) xs) (i j : Nat) (hi : i < n) (hj : j < n) (hle : xs[i]'(by omega) ≤ xs[j]'(by omega)) (sp : Value) :
    Calls Tryz.prog 149 #[.slice (some ⟨g, off, none⟩) n c, .int .i64 (i : Int), .int .i64 (j : Int), sp] w fun e w' => e = .returned (.tuple #[.int .i64 (i : Int), .int .i64 (j : Int)]) ∧ ∃ m, w' = w.drewN m := by
  obtain ⟨hl, c0⟩ := hR.wd (k := i) (by omega)
  obtain ⟨_, c1⟩ := hR.wd (k := j) (by omega)
  obtain ⟨x, hx⟩ : ∃ x, xs[i]'(by omega) = x := ⟨_, rfl⟩
  obtain ⟨y, hy⟩ : ∃ y, xs[j]'(by omega) = y := ⟨_, rfl⟩
  rw [hx] at c0 hle
  rw [hy] at c1 hle
  have hd : decide (y < x) = false := by simp; omega
  have hiI : (i : Int) < (n : Int) := by omega
  have hjI : (j : Int) < (n : Int) := by omega
  have hlt : ¬ y < x := by omega
  clear hR hx hy hle
  go_enter Tryz.func149, Tryz.ntmps149
  go_upto_region 1 with (fail)
  refine wp_region_quiet_lit (by kernel_rfl) (by kernel_rfl) ?_
  repeat (go_big_quiet_step ((go_at_call 141; exact q_same (lessU _ _ _))))
  refine wpQuiet_nil ?_
  rintro _ ⟨nq, rfl⟩
  go_wp2
  exact bodyPost_ret (v := .tuple #[.int .i64 (i : Int), .int .i64 (j : Int)]) (by simp [results, Tryz.results149, go_sem]) rfl ⟨rfl, nq, rfl⟩
set_option maxRecDepth 100000 in
set_option maxHeartbeats 1000000 in
theorem medianS (w : World) (hn : xs.length = n) (hm : n ≤ 1000) (hR : Rd .u64 w (some ⟨g, off, none⟩) xs) (hs : xs.Pairwise (· ≤ ·)) (i j k : Nat) (hij : i < j) (hjk : j < k) (hk : k < n) (sp : Value) :
    Calls Tryz.prog 148 #[.slice (some ⟨g, off, none⟩) n c, .int .i64 (i : Int), .int .i64 (j : Int), .int .i64 (k : Int), sp] w fun e w' => e = .returned (.int .i64 (j : Int)) ∧ ∃ m, w' = w.drewN m := by
  have h1 := List.pairwise_iff_getElem.1 hs i j (by omega) (by omega) hij
  have h2 := List.pairwise_iff_getElem.1 hs j k (by omega) (by omega) hjk
  have HA := Lib.hid (fun (q : Nat) => order2S (c := c) (w.drewN q) hn hm (hR.drewN q) i j (by omega) (by omega) h1 sp)
  have HB := Lib.hid (fun (q : Nat) => order2S (c := c) (w.drewN q) hn hm (hR.drewN q) j k (by omega) (by omega) h2 sp)
  have HA0 := Lib.hid (order2S (c := c) w hn hm hR i j (by omega) (by omega) h1 sp)
  clear hR hs h1 h2 hn
  go_enter Tryz.func148, Tryz.ntmps148
  go_upto_region 2 with (go_at_call 149; refine HA0.out.mono ?_; rintro e w' ⟨rfl, q1, rfl⟩)
  go_upto_region 3 with (go_at_call 149; refine (HB.out _).mono ?_; rintro e w' ⟨rfl, q2, rfl⟩)
  go_wp2_with (go_at_call 149; refine (HA.out _).mono ?_; rintro e w' ⟨rfl, q3, rfl⟩)
  go_ret
  exact ⟨rfl, _, by first | rfl | rw [World.drewN_drewN]⟩
set_option maxRecDepth 100000 in
set_option maxHeartbeats 1000000 in
theorem medAdjS (w : World) (hn : xs.length = n) (hm : n ≤ 1000) (hR : Rd .u64 w (some ⟨g, off, none⟩) xs) (hs : xs.Pairwise (· ≤ ·)) (a : Nat) (h1 : 1 ≤ a) (h2 : a + 1 < n) (sp : Value) :
    Calls Tryz.prog 147 #[.slice (some ⟨g, off, none⟩) n c, .int .i64 (a : Int), sp] w fun e w' => e = .returned (.int .i64 (a : Int)) ∧ ∃ m, w' = w.drewN m := by
  have HM := Lib.hid (medianS (c := c) w hn hm hR hs (a - 1) a (a + 1) (by omega) (by omega) h2 sp)
  have e1 : ((a - 1 : Nat) : Int) = (a : Int) - 1 := by omega
  have e2 : ((a + 1 : Nat) : Int) = (a : Int) + 1 := by omega
  rw [e1, e2] at HM
  clear hR hs hn e1 e2
  go_enter Tryz.func147, Tryz.ntmps147
  go_wp2_with (go_at_call 148; refine HM.out.mono ?_; rintro e w' ⟨rfl, q1, rfl⟩)
  go_ret
  exact ⟨rfl, _, rfl⟩
set_option maxRecDepth 100000 in
set_option maxHeartbeats 1000000 in
theorem pivot18 (w : World) (hn : xs.length = 18) (hR : Rd .u64 w (some ⟨g, off, none⟩) xs) (hs : xs.Pairwise (· ≤ ·)) :
    Calls Tryz.prog 138 #[.slice (some ⟨g, off, none⟩) 18 c, .int .i64 0, .int .i64 18] w fun e w' => e = .returned (.tuple #[.int .i64 8, .int .i64 1]) ∧ Below w.heap.size w w' := by
  have HM : Hid (∀ (W : World) (sp : Value), Below w.heap.size w W → Calls Tryz.prog 148 #[.slice (some ⟨g, off, none⟩) 18 c, .int .i64 4, .int .i64 8, .int .i64 12, sp] W fun e w' => e = .returned (.int .i64 8) ∧ ∃ m, w' = W.drewN m) := fun W sp hW =>
    medianS (n := 18) (c := c) W hn (by omega) (hR.below hW) hs 4 8 12 (by omega) (by omega) (by omega) sp
  have HA : Hid (∀ (W : World) (sp : Value) (a : Nat), 1 ≤ a → a + 1 < 18 → Below w.heap.size w W → Calls Tryz.prog 147 #[.slice (some ⟨g, off, none⟩) 18 c, .int .i64 (a : Int), sp] W fun e w' => e = .returned (.int .i64 (a : Int)) ∧ ∃ m, w' = W.drewN m) := fun W sp a h1 h2 hW =>
    medAdjS (n := 18) (c := c) W hn (by omega) (hR.below hW) hs a h1 h2 sp
  clear hR hs hn
  go_enter Tryz.func138, Tryz.ntmps138
  go_wp2_with (first
    | (go_at_call 148; refine (HM.out _ _ (by (repeat (first | with_reducible exact Below.refl _ _ | with_reducible refine bl_alloc ?_ _ | with_reducible refine bl_drew ?_ | with_reducible refine bl_drewN ?_ _ | with_reducible refine bl_bx ?_ _ | with_reducible exact BX.below _ | with_reducible refine bl_set ?_ (by first | (exact Nat.le_refl _) | (simp; done) | (simp; omega)) _ | assumption)))).mono ?_; rintro e w' ⟨rfl, q1, rfl⟩)
    | (go_at_call 147; refine (HA.out _ _ 4 (by omega) (by omega) (by (repeat (first | with_reducible exact Below.refl _ _ | with_reducible refine bl_alloc ?_ _ | with_reducible refine bl_drew ?_ | with_reducible refine bl_drewN ?_ _ | with_reducible refine bl_bx ?_ _ | with_reducible exact BX.below _ | with_reducible refine bl_set ?_ (by first | (exact Nat.le_refl _) | (simp; done) | (simp; omega)) _ | assumption)))).mono ?_; rintro e w' ⟨rfl, q1, rfl⟩)
    | (go_at_call 147; refine (HA.out _ _ 8 (by omega) (by omega) (by (repeat (first | with_reducible exact Below.refl _ _ | with_reducible refine bl_alloc ?_ _ | with_reducible refine bl_drew ?_ | with_reducible refine bl_drewN ?_ _ | with_reducible refine bl_bx ?_ _ | with_reducible exact BX.below _ | with_reducible refine bl_set ?_ (by first | (exact Nat.le_refl _) | (simp; done) | (simp; omega)) _ | assumption)))).mono ?_; rintro e w' ⟨rfl, q1, rfl⟩)
    | (go_at_call 147; refine (HA.out _ _ 12 (by omega) (by omega) (by (repeat (first | with_reducible exact Below.refl _ _ | with_reducible refine bl_alloc ?_ _ | with_reducible refine bl_drew ?_ | with_reducible refine bl_drewN ?_ _ | with_reducible refine bl_bx ?_ _ | with_reducible exact BX.below _ | with_reducible refine bl_set ?_ (by first | (exact Nat.le_refl _) | (simp; done) | (simp; omega)) _ | assumption)))).mono ?_; rintro e w' ⟨rfl, q1, rfl⟩))
  exact bodyPost_ret (v := .tuple #[.int .i64 8, .int .i64 1]) (by simp [results, Tryz.results138, go_sem]) rfl ⟨rfl, by (repeat (first | with_reducible exact Below.refl _ _ | with_reducible refine bl_alloc ?_ _ | with_reducible refine bl_drew ?_ | with_reducible refine bl_drewN ?_ _ | with_reducible refine bl_bx ?_ _ | with_reducible exact BX.below _ | with_reducible refine bl_set ?_ (by first | (exact Nat.le_refl _) | (simp; done) | (simp; omega)) _ | assumption))⟩
set_option maxRecDepth 100000 in
set_option maxHeartbeats 1000000 in
theorem pivot15 (w : World) (hn : xs.length = 15) (hR : Rd .u64 w (some ⟨g, off, none⟩) xs) (hs : xs.Pairwise (· ≤ ·)) :
    Calls Tryz.prog 138 #[.slice (some ⟨g, off, none⟩) 15 c, .int .i64 0, .int .i64 15] w fun e w' => e = .returned (.tuple #[.int .i64 6, .int .i64 1]) ∧ Below w.heap.size w w' := by
  have HM : Hid (∀ (W : World) (sp : Value), Below w.heap.size w W → Calls Tryz.prog 148 #[.slice (some ⟨g, off, none⟩) 15 c, .int .i64 3, .int .i64 6, .int .i64 9, sp] W fun e w' => e = .returned (.int .i64 6) ∧ ∃ m, w' = W.drewN m) := fun W sp hW =>
    medianS (n := 15) (c := c) W hn (by omega) (hR.below hW) hs 3 6 9 (by omega) (by omega) (by omega) sp
  have HA : Hid (∀ (W : World) (sp : Value) (a : Nat), 1 ≤ a → a + 1 < 15 → Below w.heap.size w W → Calls Tryz.prog 147 #[.slice (some ⟨g, off, none⟩) 15 c, .int .i64 (a : Int), sp] W fun e w' => e = .returned (.int .i64 (a : Int)) ∧ ∃ m, w' = W.drewN m) := fun W sp a h1 h2 hW =>
    medAdjS (n := 15) (c := c) W hn (by omega) (hR.below hW) hs a h1 h2 sp
  clear hR hs hn
  go_enter Tryz.func138, Tryz.ntmps138
  go_wp2_with (first
    | (go_at_call 148; refine (HM.out _ _ (by (repeat (first | with_reducible exact Below.refl _ _ | with_reducible refine bl_alloc ?_ _ | with_reducible refine bl_drew ?_ | with_reducible refine bl_drewN ?_ _ | with_reducible refine bl_bx ?_ _ | with_reducible exact BX.below _ | with_reducible refine bl_set ?_ (by first | (exact Nat.le_refl _) | (simp; done) | (simp; omega)) _ | assumption)))).mono ?_; rintro e w' ⟨rfl, q1, rfl⟩)
    | (go_at_call 147; refine (HA.out _ _ 3 (by omega) (by omega) (by (repeat (first | with_reducible exact Below.refl _ _ | with_reducible refine bl_alloc ?_ _ | with_reducible refine bl_drew ?_ | with_reducible refine bl_drewN ?_ _ | with_reducible refine bl_bx ?_ _ | with_reducible exact BX.below _ | with_reducible refine bl_set ?_ (by first | (exact Nat.le_refl _) | (simp; done) | (simp; omega)) _ | assumption)))).mono ?_; rintro e w' ⟨rfl, q1, rfl⟩)
    | (go_at_call 147; refine (HA.out _ _ 6 (by omega) (by omega) (by (repeat (first | with_reducible exact Below.refl _ _ | with_reducible refine bl_alloc ?_ _ | with_reducible refine bl_drew ?_ | with_reducible refine bl_drewN ?_ _ | with_reducible refine bl_bx ?_ _ | with_reducible exact BX.below _ | with_reducible refine bl_set ?_ (by first | (exact Nat.le_refl _) | (simp; done) | (simp; omega)) _ | assumption)))).mono ?_; rintro e w' ⟨rfl, q1, rfl⟩)
    | (go_at_call 147; refine (HA.out _ _ 9 (by omega) (by omega) (by (repeat (first | with_reducible exact Below.refl _ _ | with_reducible refine bl_alloc ?_ _ | with_reducible refine bl_drew ?_ | with_reducible refine bl_drewN ?_ _ | with_reducible refine bl_bx ?_ _ | with_reducible exact BX.below _ | with_reducible refine bl_set ?_ (by first | (exact Nat.le_refl _) | (simp; done) | (simp; omega)) _ | assumption)))).mono ?_; rintro e w' ⟨rfl, q1, rfl⟩))
  exact bodyPost_ret (v := .tuple #[.int .i64 6, .int .i64 1]) (by simp [results, Tryz.results138, go_sem]) rfl ⟨rfl, by (repeat (first | with_reducible exact Below.refl _ _ | with_reducible refine bl_alloc ?_ _ | with_reducible refine bl_drew ?_ | with_reducible refine bl_drewN ?_ _ | with_reducible refine bl_bx ?_ _ | with_reducible exact BX.below _ | with_reducible refine bl_set ?_ (by first | (exact Nat.le_refl _) | (simp; done) | (simp; omega)) _ | assumption))⟩
set_option maxRecDepth 100000 in
set_option maxHeartbeats 1000000 in
theorem partInsS (w : World) (hn : xs.length = n) (h2 : 2 ≤ n) (hm : n ≤ 1000) (hR : Rd .u64 w (some ⟨g, off, none⟩) xs) (hs : xs.Pairwise (· ≤ ·)) :
    Calls Tryz.prog 140 #[.slice (some ⟨g, off, none⟩) n c, .int .i64 0, .int .i64 (n : Int)] w fun e w' => e = .returned (.bool true) ∧ ∃ m, w' = w.drewN m := by
  have HN := Lib.hid hn
  have HR := Lib.hid hR
  have HS := Lib.hid hs
  clear hn hR hs
  go_enter Tryz.func140, Tryz.ntmps140
  go_wp2
  refine wp_loop_rounds 1 ?_
  rw [rounds_succ]
  go_wp2
  go_loopw [7, 17, 18, 19, 20, 21, 22, 23, 24, 25, 26, 27, 28, 29, 30, 31, 32, 33, 34] (fun i _ _ _ _ _ _ _ _ _ _ _ _ _ _ _ _ _ _ wr => ∃ k m : Nat, 1 ≤ k ∧ k ≤ n ∧ i = .int .i64 k ∧ wr = w.drewN m) (fun i _ _ _ _ _ _ _ _ _ _ _ _ _ _ _ _ _ _ _ => n - (intOf i).toNat)
  case atStart => exact ⟨1, 0, by omega, by omega, rfl, rfl⟩
  case round =>
    obtain ⟨k, m, hk1, hk, rfl, rfl⟩ := hrel
    by_cases hlt : k < n
    · obtain ⟨j, rfl⟩ : ∃ j, k = j + 1 := ⟨k - 1, by omega⟩
      have hkl : j + 1 < xs.length := by rw [HN.out]; exact hlt
      obtain ⟨hl, c1⟩ := HR.out.wd hkl
      obtain ⟨_, c0⟩ := HR.out.wd (k := j) (by omega)
      have hle := List.pairwise_iff_getElem.1 HS.out j (j + 1) (by omega) hkl (by omega)
      have hd : decide (xs[j + 1] < xs[j]) = false := by simp; omega
      have hlt' : decide ((j : Int) + 1 < (n : Int)) = true := decide_eq_true (by omega)
      have q1 : ((j + 1 : Nat) : Int) = (j : Int) + 1 := by omega
      have q2 : (j : Int) + 1 - 1 = (j : Int) := by omega
      have q3 : IntKind.i64.wrap ((j : Int) + 1 - 1) = (j : Int) := by rw [q2]; exact IntWalk.i64_in _ (by omega)
      have q4 : ((j : Int) + 1).toNat = j + 1 := by omega
      clear hle
      obtain ⟨W, hW⟩ : ∃ W, w.drewN m = W := ⟨_, rfl⟩
      have c0' : W.cell? ⟨g, off + j, none⟩ = some (.int .u64 xs[j]) := by rw [← hW]; exact c0
      have c1' : W.cell? ⟨g, off + (j + 1), none⟩ = some (.int .u64 xs[j + 1]) := by rw [← hW]; exact c1
      have hl' : g < W.heap.size := by rw [← hW]; exact hl
      rw [hW]
      have HW := Lib.hid hW
      clear hW
      rw [q1]
      go_wp2
      refine wp_region_quiet_lit (by kernel_rfl) (by kernel_rfl) ?_
      repeat (go_big_quiet_step ((go_at_call 141; exact q_same (lessU _ _ _))))
      refine wpQuiet_nil ?_
      rintro _ ⟨nq, rfl⟩
      go_wp2
      exact ⟨⟨j + 2, m + nq, by omega, by omega, by go_num, by rw [← HW.out, World.drewN_drewN]⟩, by simp [intOf]; omega⟩
    · obtain rfl : k = n := by omega
      have hlt' : decide ((k : Int) < (k : Int)) = false := decide_eq_false (by omega)
      go_wp2
      go_quiet (fail)
      go_wp2
      exact bodyPost_ret (v := .bool true) (by simp [results, Tryz.results140, go_sem]) rfl ⟨rfl, _, rfl⟩
end
section
variable {w : World} {g off c : Nat} {xs : List Int}
set_option maxRecDepth 100000 in
set_option maxHeartbeats 1000000 in
theorem pdq18 (w : World) (hn : xs.length = 18) (hR : Rd .u64 w (some ⟨g, off, none⟩) xs) (hs : xs.Pairwise (· ≤ ·)) :
    Calls Tryz.prog 126 #[.slice (some ⟨g, off, none⟩) 18 c, .int .i64 0, .int .i64 18, .int .i64 5] w fun e w' => e = .returned (.tuple #[]) ∧ Below w.heap.size w w' := by
  have HP := Lib.hid (pivot18 (c := c) w hn hR hs)
  have HI : Hid (∀ W, Below w.heap.size w W → Calls Tryz.prog 140 #[.slice (some ⟨g, off, none⟩) 18 c, .int .i64 0, .int .i64 18] W fun e w' => e = .returned (.bool true) ∧ ∃ m, w' = W.drewN m) := fun W hW => partInsS (n := 18) (c := c) W hn (by omega) (by omega) (hR.below hW) hs
  clear hn hR hs
  go_enter Tryz.func126, Tryz.ntmps126
  go_wp2
  refine wp_loop_rounds 1 ?_
  rw [rounds_succ]
  go_wp2_with (first
    | (go_at_call 138; refine HP.out.mono ?_; rintro e w' ⟨rfl, hb⟩; obtain ⟨x, rfl⟩ := bx_of hb; clear hb)
    | (go_at_call 140; refine (HI.out _ (by (repeat (first | with_reducible exact Below.refl _ _ | with_reducible refine bl_alloc ?_ _ | with_reducible refine bl_drew ?_ | with_reducible refine bl_drewN ?_ _ | with_reducible refine bl_bx ?_ _ | with_reducible exact BX.below _ | with_reducible refine bl_set ?_ (by first | (exact Nat.le_refl _) | (simp; done) | (simp; omega)) _ | assumption)))).mono ?_; rintro e w' ⟨rfl, m, rfl⟩))
  exact bodyPost_ret (v := .tuple #[]) (by simp [results, Tryz.results126, go_sem]) rfl ⟨rfl, by (repeat (first | with_reducible exact Below.refl _ _ | with_reducible refine bl_alloc ?_ _ | with_reducible refine bl_drew ?_ | with_reducible refine bl_drewN ?_ _ | with_reducible refine bl_bx ?_ _ | with_reducible exact BX.below _ | with_reducible refine bl_set ?_ (by first | (exact Nat.le_refl _) | (simp; done) | (simp; omega)) _ | assumption))⟩
set_option maxRecDepth 100000 in
set_option maxHeartbeats 1000000 in
theorem len64_18 (w : World) : Calls Tryz.prog 120 #[.int .u64 18] w fun e w' => e = .returned (.int .i64 5) ∧ w = w' := by
  go_enter Tryz.func120, Tryz.ntmps120
  go_wp2
  go_ret
  exact ⟨by kernel_rfl, rfl⟩
set_option maxRecDepth 100000 in
set_option maxHeartbeats 1000000 in
theorem len_18 (w : World) : Calls Tryz.prog 90 #[.int .u64 18] w fun e w' => e = .returned (.int .i64 5) ∧ w = w' := by
  go_enter Tryz.func90, Tryz.ntmps90
  go_wp2_with (go_at_call 120; refine (len64_18 _).mono ?_; rintro e w' ⟨rfl, rfl⟩)
  go_ret
  exact ⟨rfl, rfl⟩
set_option maxRecDepth 100000 in
set_option maxHeartbeats 1000000 in
theorem sort18 (w : World) (hn : xs.length = 18) (hR : Rd .u64 w (some ⟨g, off, none⟩) xs) (hs : xs.Pairwise (· ≤ ·)) :
    Calls Tryz.prog 102 #[.slice (some ⟨g, off, none⟩) 18 c] w fun e w' => e = .returned (.tuple #[]) ∧ Below w.heap.size w w' := by
  have HI := Lib.hid (pdq18 (c := c) w hn hR hs)
  clear hn hR hs
  go_enter Tryz.func102, Tryz.ntmps102
  go_wp2_with (first | (go_at_call 90; refine (len_18 _).mono ?_; rintro e w' ⟨rfl, rfl⟩) | (go_at_call 126; refine HI.out.mono ?_; rintro e w' ⟨rfl, hb⟩; obtain ⟨x, rfl⟩ := bx_of hb; clear hb))
  go_end0
  exact ⟨rfl, by (repeat (first | with_reducible exact Below.refl _ _ | with_reducible refine bl_alloc ?_ _ | with_reducible refine bl_drew ?_ | with_reducible refine bl_drewN ?_ _ | with_reducible refine bl_bx ?_ _ | with_reducible exact BX.below _ | with_reducible refine bl_set ?_ (by first | (exact Nat.le_refl _) | (simp; done) | (simp; omega)) _ | assumption))⟩
set_option maxRecDepth 100000 in
set_option maxHeartbeats 1000000 in
theorem pdq15 (w : World) (hn : xs.length = 15) (hR : Rd .u64 w (some ⟨g, off, none⟩) xs) (hs : xs.Pairwise (· ≤ ·)) :
    Calls Tryz.prog 126 #[.slice (some ⟨g, off, none⟩) 15 c, .int .i64 0, .int .i64 15, .int .i64 4] w fun e w' => e = .returned (.tuple #[]) ∧ Below w.heap.size w w' := by
  have HP := Lib.hid (pivot15 (c := c) w hn hR hs)
  have HI : Hid (∀ W, Below w.heap.size w W → Calls Tryz.prog 140 #[.slice (some ⟨g, off, none⟩) 15 c, .int .i64 0, .int .i64 15] W fun e w' => e = .returned (.bool true) ∧ ∃ m, w' = W.drewN m) := fun W hW => partInsS (n := 15) (c := c) W hn (by omega) (by omega) (hR.below hW) hs
  clear hn hR hs
  go_enter Tryz.func126, Tryz.ntmps126
  go_wp2
  refine wp_loop_rounds 1 ?_
  rw [rounds_succ]
  go_wp2_with (first
    | (go_at_call 138; refine HP.out.mono ?_; rintro e w' ⟨rfl, hb⟩; obtain ⟨x, rfl⟩ := bx_of hb; clear hb)
    | (go_at_call 140; refine (HI.out _ (by (repeat (first | with_reducible exact Below.refl _ _ | with_reducible refine bl_alloc ?_ _ | with_reducible refine bl_drew ?_ | with_reducible refine bl_drewN ?_ _ | with_reducible refine bl_bx ?_ _ | with_reducible exact BX.below _ | with_reducible refine bl_set ?_ (by first | (exact Nat.le_refl _) | (simp; done) | (simp; omega)) _ | assumption)))).mono ?_; rintro e w' ⟨rfl, m, rfl⟩))
  exact bodyPost_ret (v := .tuple #[]) (by simp [results, Tryz.results126, go_sem]) rfl ⟨rfl, by (repeat (first | with_reducible exact Below.refl _ _ | with_reducible refine bl_alloc ?_ _ | with_reducible refine bl_drew ?_ | with_reducible refine bl_drewN ?_ _ | with_reducible refine bl_bx ?_ _ | with_reducible exact BX.below _ | with_reducible refine bl_set ?_ (by first | (exact Nat.le_refl _) | (simp; done) | (simp; omega)) _ | assumption))⟩
set_option maxRecDepth 100000 in
set_option maxHeartbeats 1000000 in
theorem len64_15 (w : World) : Calls Tryz.prog 120 #[.int .u64 15] w fun e w' => e = .returned (.int .i64 4) ∧ w = w' := by
  go_enter Tryz.func120, Tryz.ntmps120
  go_wp2
  go_ret
  exact ⟨by kernel_rfl, rfl⟩
set_option maxRecDepth 100000 in
set_option maxHeartbeats 1000000 in
theorem len_15 (w : World) : Calls Tryz.prog 90 #[.int .u64 15] w fun e w' => e = .returned (.int .i64 4) ∧ w = w' := by
  go_enter Tryz.func90, Tryz.ntmps90
  go_wp2_with (go_at_call 120; refine (len64_15 _).mono ?_; rintro e w' ⟨rfl, rfl⟩)
  go_ret
  exact ⟨rfl, rfl⟩
set_option maxRecDepth 100000 in
set_option maxHeartbeats 1000000 in
theorem sort15 (w : World) (hn : xs.length = 15) (hR : Rd .u64 w (some ⟨g, off, none⟩) xs) (hs : xs.Pairwise (· ≤ ·)) :
    Calls Tryz.prog 102 #[.slice (some ⟨g, off, none⟩) 15 c] w fun e w' => e = .returned (.tuple #[]) ∧ Below w.heap.size w w' := by
  have HI := Lib.hid (pdq15 (c := c) w hn hR hs)
  clear hn hR hs
  go_enter Tryz.func102, Tryz.ntmps102
  go_wp2_with (first | (go_at_call 90; refine (len_15 _).mono ?_; rintro e w' ⟨rfl, rfl⟩) | (go_at_call 126; refine HI.out.mono ?_; rintro e w' ⟨rfl, hb⟩; obtain ⟨x, rfl⟩ := bx_of hb; clear hb))
  go_end0
  exact ⟨rfl, by (repeat (first | with_reducible exact Below.refl _ _ | with_reducible refine bl_alloc ?_ _ | with_reducible refine bl_drew ?_ | with_reducible refine bl_drewN ?_ _ | with_reducible refine bl_bx ?_ _ | with_reducible exact BX.below _ | with_reducible refine bl_set ?_ (by first | (exact Nat.le_refl _) | (simp; done) | (simp; omega)) _ | assumption))⟩
end
end Go.Proofs.YtjaohgnloddgfaaGreatDoor

namespace Go.Proofs.YtjaohgnloddgfaaGreatDoor
open Go.RowKit
set_option linter.unusedVariables false

theorem sortB (W : World) (g n c : Nat) (zs : List Int) (hz : zs.length = n) (h1 : 1 ≤ n) (hm : n ≤ 12 ∨ n = 15 ∨ n = 18) (hR : Rd .u64 W (some ⟨g, 0, none⟩) zs) (hs : zs.Pairwise (· ≤ ·)) :
    Calls Tryz.prog 102 #[.slice (some ⟨g, 0, none⟩) n c] W fun e w' => e = .returned (.tuple #[]) ∧ Below W.heap.size W w' := by
  rcases hm with hm | rfl | rfl
  · refine (sortU W _ n c zs hz h1 hm hR hs).mono ?_
    rintro e w' ⟨rfl, m, rfl⟩
    exact ⟨rfl, bl_drewN (Below.refl _ _) m⟩
  · exact sort15 W hz hR hs
  · exact sort18 W hz hR hs
set_option maxRecDepth 100000 in
set_option maxHeartbeats 4000000 in
theorem memStoresB (w : World) (A : Option Addr) (n c : Nat) (ws : List (Int × Int)) (hn : ws.length = n) (h1 : 1 ≤ n) (hm0 : n ≤ 12 ∨ n = 15 ∨ n = 18) (hS : Sl 147 2 w A n c (wcells ws)) (hr : ∀ p ∈ ws, 0 ≤ p.1 ∧ p.1 < 18446744073709551616) (hs : (starts ws).Pairwise (· ≤ ·)) :
    Calls Tryz.prog 76 #[.slice A n c] w (StoPost w (storesP ws)) := by
  have HSA : Hid (∀ (W : World) (g : Nat) (zs : List Int), zs.length = n → Rd .u64 W (some ⟨g, 0, none⟩) zs → zs.Pairwise (· ≤ ·) → Calls Tryz.prog 102 #[.slice (some ⟨g, 0, none⟩) n n] W fun e w' => e = .returned (.tuple #[]) ∧ Below W.heap.size W w') := fun W g zs hz hR hs => sortB W g n n zs hz h1 hm0 hR hs
  have hm : n ≤ 18 := by omega
  clear hm0
  have HN := Lib.hid hn
  have HS := Lib.hid hS
  have HR := Lib.hid hr
  have HSo := Lib.hid hs
  have e0 : ((n : Int) == 0) = false := by simp; omega
  have hmk : ∀ W : World, (Instr.makeSlice 28 (.int .i64 0) (.int .i64 (n : Int))).run Tryz.prog W = .ok (.slice (some ⟨W.heap.size, 0, none⟩) 0 n) (W.alloc (.cells (ia .u64 (List.replicate n 0)) 23)) := run_make_room 28 23 n Tryz.underlying28 info_u64 (by omega)
  clear hn hS hr hs
  go_enter Tryz.func76, Tryz.ntmps76
  go_wp2
  have HI0 : Hid (StoInv w w.heap.size n ws 0 none 0 (w.alloc (.cells (ia .u64 (List.replicate n 0)) 23))) := by
    refine ⟨Sl.nil, ?_, bl_alloc (Below.refl _ _) _, by simp [OwnB]⟩
    have : lnPad ws n 0 = List.replicate n 0 := by simp [lnPad, starts]
    rw [this]; exact IB.new _ _
  obtain ⟨g, hg⟩ : ∃ g, w.heap.size = g := ⟨_, rfl⟩
  obtain ⟨W, hW⟩ : ∃ W, w.alloc (.cells (ia .u64 (List.replicate n 0)) 23) = W := ⟨_, rfl⟩
  have HI1 : Hid (StoInv w g n ws 0 none 0 W) := by show StoInv _ _ _ _ _ _ _ _; rw [← hg, ← hW]; exact HI0.out
  have hgw : w.heap.size ≤ g := by omega
  rw [hg, hW]
  clear hmk hg hW HI0
  go_loopw [17, 3, 4, 6, 18, 19, 20, 21, 22, 23, 24, 25, 26, 27, 28, 29, 30, 31, 32, 33, 34, 35] (fun i p l _ _ _ _ _ _ _ _ _ _ _ _ _ _ _ _ _ _ _ wr => ∃ (k : Nat) (A' : Option Addr) (c' : Nat), k ≤ n ∧ i = .int .i64 k ∧ p = .slice A' k c' ∧ l = .slice (some ⟨g, 0, none⟩) k n ∧ StoInv w g n ws k A' c' wr) (fun i p l _ _ _ _ _ _ _ _ _ _ _ _ _ _ _ _ _ _ _ _ => n - (intOf i).toNat)
  case atStart => exact ⟨0, none, 0, by omega, rfl, rfl, rfl, HI1.out⟩
  case round =>
    clear HI1
    obtain ⟨k, A', c', hk, rfl, rfl, rfl, hP, hI, hB, hO⟩ := hrel
    have HP := Lib.hid hP
    have HI := Lib.hid hI
    have HB := Lib.hid hB
    have HO := Lib.hid hO
    by_cases hlt : k < n
    · have hkl : k < ws.length := by rw [HN.out]; exact hlt
      obtain ⟨gw, ow, hA, hl, c1, c2⟩ := (HS.out.keep (fun b hb => hB.block b (HS.out.lt hb))).wr hkl
      obtain ⟨⟨of, v⟩, hp⟩ : ∃ p, ws[k] = p := ⟨_, rfl⟩
      have hpp := HR.out _ (List.getElem_mem hkl)
      rw [hp] at c1 c2 hpp
      have HPP := Lib.hid hp
      have hof : 0 ≤ of ∧ of < 18446744073709551616 := hpp
      have HOF := Lib.hid hof
      subst hA
      rw [show 2 * k = k * 2 by omega] at c1 c2
      have hgn : ¬ gw = wr.heap.size := by omega
      have hgr := hI.lt
      clear hP hI hB hO hp hpp hof
      go_wp2_with (at_builtin; refine wpList_append_sl rfl (.tmp 21) (.tmp 27) 124 rfl 174 (.agg #[.int .u8 0, .int .u64 0, .int .u64 0]) 3 24 rfl (by omega) Tryz.underlying124 info_instr (by omega) A' k c' (pcells (insSt (ws.take k))) ⟨wr.heap.size + 1, 0, none⟩ 1 1 [.int .u8 1, .int .u64 of, .int .u64 v] rfl rfl (HP.out.keep (fun b hb => ((bl_alloc (bl_alloc (Below.refl _ _) _) _ : Below wr.heap.size wr _).block b (HP.out.lt hb)))) rfl (by omega) (by have := cells_three (wr.alloc (.cells #[.int .u64 of, .int .u64 v] 147)) 174 (.int .u8 1) (.int .u64 of) (.int .u64 v); simpa using this) (ins_one _ _ _) (by omega) ?_; intro A2 c2' w2 HO2 HC2 HW2 HG2; have hsz : wr.heap.size + 2 ≤ w2.heap.size := (by have := HC2.out.size; simpa using this); have hno : ∀ b, wr.heap.size ≤ b → ¬ OwnB A' b := (fun b hb ho => by have := HP.out.lt ho; omega); have m0 : w2.cell? ⟨wr.heap.size, 0, none⟩ = some (.int .u64 of) := ((HC2.out.cells _ _ (by simp; omega) (hno _ (Nat.le_refl _))).trans (by go_simp)); have HI2 : Hid (IB .u64 23 w2 g (lnPad ws n k)) := (((HI.out.alloc _).alloc _).ch HC2.out (fun ho => (HO.out g ho).2 rfl)); have m1 : wr.heap.size < w2.heap.size := (by omega); clear hno)
      go_wp2_with (first | (go_at_call 101; refine (memStart _ of HOF.out).mono ?_; rintro e w' ⟨rfl, rfl⟩) | (at_builtin; refine wpList_append_ib rfl (.tmp 29) (.tmp 33) 28 rfl 23 Tryz.underlying28 info_u64 g k n ⟨w2.heap.size, 0, none⟩ 1 (startOf of) (lnPad ws n k) rfl rfl (HI2.out.alloc _) hlt (by rw [length_lnPad ws n k HN.out hk]; exact Nat.le_refl _) (by simp [go_sem]) ?_))
      refine ⟨⟨k + 1, A2, c2', by omega, by go_num, rfl, rfl, ?_, ?_, ?_, ?_⟩, by simp [intOf]; omega⟩
      · have hx := HO2.out
        have e1 : pcells (insSt (ws.take (k + 1))) = pcells (insSt (ws.take k)) ++ [.int .u8 1, .int .u64 of, .int .u64 v] := by
          rw [List.take_succ_eq_append_getElem hkl, HPP.out, insSt, List.map_append, pcells_append]; rfl
        rw [e1]
        refine hx.keep (fun b hb => ?_)
        have hbl := hx.lt hb
        have hbg : b ≠ g := by
          rcases HW2.out b hb with h | h
          · exact (HO.out b h).2
          · rw [h]; simp; omega
        rw [Below.heap_setCell _ _ _ _ hbg, Below.heap_alloc _ _ _ hbl]
      · have := (HI2.out.alloc (.cells #[.int .u64 (startOf of)] 23)).set k (startOf of)
        rw [← lnPad_set ws n k HN.out hlt, HPP.out]
        exact this
      · refine bl_set (bl_alloc (bl_ch (bl_alloc (bl_alloc HB.out _) _) HC2.out (fun b hb => (HO.out b hb).1)) _) hgw _
      · intro b hb
        rcases HW2.out b hb with h | h
        · exact HO.out b h
        · have := HB.out.size
          rw [h]; simp; omega
    · obtain rfl : k = n := by omega
      have hI' : IB .u64 23 wr g (starts ws) := by rw [← lnPad_all ws k HN.out]; exact hI
      have hP' : Sl 174 3 wr A' k c' (pcells (insSt ws)) := by rw [List.take_of_length_le (by rw [HN.out]; omega)] at hP; exact hP
      have hsl : (starts ws).length = k := by simp [starts, HN.out]
      have HSRT := Lib.hid (HSA.out wr g (starts ws) hsl hI'.rd0 HSo.out)
      have HCPT := Lib.hid (fun (X : BX wr) => compactU X.w g k (starts ws) hsl h1 (by omega) (hI'.keep (X.below.block g hI'.lt)))
      have HP' := Lib.hid hP'
      clear hP hI hB hO hI' hP' HP HI hsl
      go_wp2_with (first | (go_at_call 102; refine HSRT.out.mono ?_; rintro e w' ⟨rfl, hb⟩; obtain ⟨X, rfl⟩ := bx_of hb; clear hb) | (go_at_call 103; refine (HCPT.out X).mono ?_; rintro e w3 ⟨zs, rfl, hZ, hzt, hC3⟩; have HZ := Lib.hid hZ; have HZT := Lib.hid hzt; have HC3 := Lib.hid hC3; clear hZ hzt hC3))
      have HI2 : Hid (StoInv2 w g k ws zs (cpt (starts ws)) 0 A' c' w3) := by
        refine ⟨?_, HZ.out, bl_ch (bl_bx HB.out X) HC3.out (fun b hb => by rw [show b = g from hb]; exact hgw), HO.out⟩
        have h1 := HP'.out.keep (w' := w3) (fun b hb => (HC3.out.block b (X.lt_size (HP'.out.lt hb)) (fun h => (HO.out b hb).2 h)).trans (X.below.block b (HP'.out.lt hb)))
        simpa [insFl] using h1
      have hzl : (cpt (starts ws)).length ≤ k := by have := cpt_le (starts ws); simp [starts] at this; rw [HN.out] at this; exact this
      obtain ⟨cs, hcs⟩ : ∃ cs, cpt (starts ws) = cs := ⟨_, rfl⟩
      obtain ⟨q, hq⟩ : ∃ q, cs.length = q := ⟨_, rfl⟩
      have HCS := Lib.hid hcs
      have HQ := Lib.hid hq
      rw [hcs] at HI2 HZT hzl ⊢
      rw [hq] at HZT hzl ⊢
      clear hcs hq HSRT HCPT HZ HC3 HB HO HP'
      go_loopw [41, 3, 8, 42, 43, 44, 45, 46, 47, 48, 49, 50] (fun i p _ _ _ _ _ _ _ _ _ _ wr => ∃ (j : Nat) (A' : Option Addr) (c' : Nat), j ≤ q ∧ i = .int .i64 j ∧ p = .slice A' (k + j) c' ∧ StoInv2 w g k ws zs cs j A' c' wr) (fun i _ _ _ _ _ _ _ _ _ _ _ _ => q - (intOf i).toNat)
      case atStart => exact ⟨0, _, _, by omega, rfl, rfl, HI2.out⟩
      case round =>
        clear HI2
        obtain ⟨j, A1, c1, hj, rfl, rfl, hP, hI, hB, hO⟩ := hrel
        have HP := Lib.hid hP
        have HI := Lib.hid hI
        have HB := Lib.hid hB
        have HO := Lib.hid hO
        have hgr := hI.lt
        by_cases hjq : j < q
        · have hjl : j < cs.length := by rw [HQ.out]; exact hjq
          obtain ⟨l, hl⟩ : ∃ l, cs[j] = l := ⟨_, rfl⟩
          have hzl' : q ≤ zs.length := by have := congrArg List.length HZT.out; rw [List.length_take, HQ.out] at this; omega
          have hzj : zs[j]'(by omega) = l := by
            have h1 : (zs.take q)[j]'(by rw [List.length_take]; omega) = l := by
              have h2 := HZT.out
              simp only [h2]; exact hl
            rwa [List.getElem_take] at h1
          have cj : wr.cell? ⟨g, j, none⟩ = some (.int .u64 l) := by rw [hI.cell (by omega), hzj]
          have HL := Lib.hid hl
          have hjn : j < k := by omega
          clear hP hI hB hO hl hzj
          go_wp2_with (at_builtin; refine wpList_append_sl rfl (.tmp 45) (.tmp 48) 124 rfl 174 (.agg #[.int .u8 0, .int .u64 0, .int .u64 0]) 3 24 rfl (by omega) Tryz.underlying124 info_instr (by omega) A1 (k + j) c1 (pcells (insSt ws ++ insFl (cs.take j))) ⟨wr.heap.size, 0, none⟩ 1 1 [.int .u8 2, .int .u64 l, .int .u64 0] rfl rfl (HP.out.keep (fun b hb => Below.heap_alloc _ _ _ (HP.out.lt hb))) rfl (by omega) (cells_three wr 174 _ _ _) (ins_one _ _ _) (by omega) ?_; intro A2 c2' w2 HO2 HC2 HW2 HG2)
          refine ⟨⟨j + 1, A2, c2', by omega, by go_num, rfl, ?_, ?_, ?_, ?_⟩, by simp [intOf]; omega⟩
          · have e1 : pcells (insSt ws ++ insFl (cs.take (j + 1))) = pcells (insSt ws ++ insFl (cs.take j)) ++ [.int .u8 2, .int .u64 l, .int .u64 0] := by
              rw [List.take_succ_eq_append_getElem hjl, HL.out, insFl, List.map_append, ← List.append_assoc, pcells_append]; rfl
            rw [e1]; exact HO2.out
          · exact (HI.out.alloc _).ch HC2.out (fun ho => (HO.out g ho).2 rfl)
          · exact bl_ch (bl_alloc HB.out _) HC2.out (fun b hb => (HO.out b hb).1)
          · intro b hb
            have := HB.out.size
            rcases HW2.out b hb with h | h
            · exact HO.out b h
            · rw [h]; simp; omega
        · obtain rfl : j = q := by omega
          clear hP hI hB hO
          go_wp2_with (at_builtin; refine wpList_append_sl rfl (.tmp 51) (.tmp 53) 124 rfl 174 (.agg #[.int .u8 0, .int .u64 0, .int .u64 0]) 3 24 rfl (by omega) Tryz.underlying124 info_instr (by omega) A1 (k + j) c1 (pcells (insSt ws ++ insFl (cs.take j))) ⟨wr.heap.size, 0, none⟩ 1 1 [.int .u8 3, .int .u64 0, .int .u64 0] rfl rfl (HP.out.keep (fun b hb => Below.heap_alloc _ _ _ (HP.out.lt hb))) rfl (by omega) (cells_three wr 174 _ _ _) (ins_one _ _ _) (by omega) ?_; intro A2 c2' w2 HO2 HC2 HW2 HG2)
          go_ret
          have hE : storesP ws = insSt ws ++ insFl (cs.take j) ++ [(3, 0, 0)] := by
            rw [storesP, HCS.out, List.take_of_length_le (by rw [HQ.out]; exact Nat.le_refl _)]
          have hlen : (storesP ws).length = k + j + 1 := by
            rw [hE]; simp [insSt, insFl, HN.out, HQ.out]; omega
          refine ⟨A2, c2', ?_, ?_, ?_, ?_⟩
          · rw [hlen]; rfl
          · rw [hlen, hE, pcells_append]; exact HO2.out
          · exact bl_ch (bl_alloc HB.out _) HC2.out (fun b hb => (HO.out b hb).1)
          · intro b hb
            have := HB.out.size
            rcases HW2.out b hb with h | h
            · exact (HO.out b h).1
            · rw [h]; simp; omega
end Go.Proofs.YtjaohgnloddgfaaGreatDoor

namespace Go.Proofs.YtjaohgnloddgfaaGreatDoor
open Go.RowKit
set_option linter.unusedVariables false

theorem run_append_slB {P : Program} (w : World) (t ty e : TypeId) (zv : Value) (size by_ : Nat) (hzs : zv.cells.size = size) (hsz : 0 < size) (ht : P.underlying t = some (.slice e)) (hinfo : (P.info? e).map (fun i => (i.zero, i.size, i.bytes)) = some (some zv, size, by_)) (hby : by_ ≤ 128)
    (A : Option Addr) (n c : Nat) (xs : List Value) (hown : Sl e size w A n c xs) (ad : Addr) (m d : Nat) (ys : List Value) (hm : ys.length = m * size) (hm0 : 0 < m) (hr : ∀ j u, ys[j]? = some u → w.cell? (ad.add j) = some u) (hf : ∀ u ∈ ys, u.oneCell' = true)
    (hbound : n + m ≤ 1000000000) :
    ∃ A' c' w', (Builtin.append_ #[t, t] ty #[.slice A n c, .slice (some ad) m d]).run P w = .ok (.slice A' (n + m) c') w' ∧ Sl e size w' A' (n + m) c' (xs ++ ys) ∧ Ch (OwnB A) w w' ∧ (∀ b, OwnB A' b → OwnB A b ∨ b = w.heap.size) ∧ (c < n + m → A' = some ⟨w.heap.size, 0, none⟩) := by
  cases hi : P.info? e with
  | none => rw [hi] at hinfo; cases hinfo
  | some i =>
    rw [hi] at hinfo
    simp only [Option.map_some, Option.some.injEq, Prod.mk.injEq] at hinfo
    obtain ⟨hz, hs, hb⟩ := hinfo
    subst hs hb
    have hbb : (n + m) * i.bytes ≤ (n + m) * 128 := Nat.mul_le_mul_left _ hby
    have hmx : n + m ≤ maxLen := by unfold maxLen; omega
    have hlen : (xs ++ ys).length = (n + m) * i.size := by rw [List.length_append, hown.1, hm, Nat.add_mul]
    have grown : ∀ (old : Nat), old < n + m → Sl e i.size (w.drew.alloc (.cells (xs.toArray ++ ys.toArray ++ Builtin.zeroCells zv.cells (grownCap w (n + m) old e - (n + m))) e)) (some ⟨w.heap.size, 0, none⟩) (n + m) (grownCap w (n + m) old e) (xs ++ ys) := by
      intro old ho
      have hge := grownCap_ge w (n + m) old e
      have hcm : grownCap w (n + m) old e ≤ maxLen := grownCap_le_maxLen w (n + m) old e hmx
      refine ⟨hlen, .inr ⟨w.heap.size, 0, _, rfl, heap_alloc_new w.drew _, hge, hcm, ?_, ?_⟩⟩
      · simp only [Array.size_append, List.size_toArray, size_zeroCells, hzs, hown.1, hm, ← Nat.add_mul, Nat.zero_add]
        apply Nat.mul_le_mul_right
        omega
      · simp only [Array.toList_append, List.append_assoc, List.drop_zero]
        rw [← List.append_assoc, ← hlen]
        exact List.take_left
    have hCh : ∀ o : Obj, Ch (OwnB A) w (w.drew.alloc o) := fun o => (Ch.drew (Ch.refl _ _)).alloc o
    rcases hown.2 with ⟨rfl, rfl, rfl⟩ | ⟨g, off, cur, rfl, hC, hnc, hcm, hfit, htk⟩
    · have hx : xs = [] := List.eq_nil_of_length_eq_zero (by simpa using hown.1)
      subst hx
      have hrun := run_append_nil (P := P) w t ty e i zv ht hi hz ad m d ys hm hr hm0 (by omega) (by simp only [Nat.zero_add] at hbb; omega)
      have hgr := grown 0 (by omega)
      simp only [Nat.zero_add, List.nil_append, Array.empty_append] at hgr ⊢
      exact ⟨_, _, _, hrun, hgr, hCh _, fun b hb => .inr (by simpa [OwnB] using hb.symm), fun _ => rfl⟩
    · by_cases hroom : n + m ≤ c
      · have e0 : n * i.size + m * i.size ≤ c * i.size := by rw [← Nat.add_mul]; exact Nat.mul_le_mul_right _ hroom
        have hrun := run_append_room_cells (P := P) w t ty e i ht hi g off n c ad m d ys hm hr hf hroom
          (fun j hj => by rw [hC.cell]; have : off + n * i.size + j < cur.size := by omega
                          simp [this]) (fun j hj => hC.frozen _)
        refine ⟨_, _, _, hrun, ⟨hlen, .inr ⟨g, off, _, rfl, cb_setCells ys (off + n * i.size) w cur hC (by omega), hroom, hcm, ?_, ?_⟩⟩, (ch_setCells g ys _ w).mono (fun b hb _ => by unfold At at hb; subst hb; simp [OwnB]), fun b hb => .inl hb, fun h => by omega⟩
        · simp only [List.size_toArray, List.length_append, List.length_take, List.length_drop, Array.length_toList]
          omega
        · rw [← htk, Nat.add_mul]
          have hl1 : (cur.toList.take (off + n * i.size)).length = off + n * i.size := by simp; omega
          simp only [List.append_assoc]
          rw [List.drop_append_of_le_length (by rw [hl1]; omega), List.drop_take]
          rw [show off + n * i.size - off = n * i.size by omega]
          have hl2 : ((cur.toList.drop off).take (n * i.size)).length = n * i.size := by rw [htk]; exact hown.1
          rw [← hm, ← hl2]
          rw [← List.append_assoc]
          rw [show ((cur.toList.drop off).take ((cur.toList.drop off).take (n * i.size)).length) = (cur.toList.drop off).take (n * i.size) by rw [hl2]]
          rw [← List.length_append]
          exact List.take_left
      · have hrun := run_append_grow (P := P) w t ty e i zv ht hi hz ⟨g, off, none⟩ n c xs hown.1 (hown.cells _ rfl) ad m d ys hm hr (by omega) (by omega) (growslice_fits (by omega) (by omega))
        exact ⟨_, _, _, hrun, grown c (by omega), hCh _, fun b hb => .inr (by simpa [OwnB] using hb.symm), fun _ => rfl⟩
theorem wpList_append_slB {P : Program} {w : World} {ops : Array Oper} {rest : List Oper} {o : Oper} {a : Act} {Q : Exit → Act → World → Prop} (hgd : o.guard = none) (s x : Operand) (t : TypeId)
    (ho : o.op = .call { callee := .builtin .append, args := #[s, x], argTypes := #[t, t] }) (e : TypeId) (zv : Value) (size by_ : Nat) (hzs : zv.cells.size = size) (hsz : 0 < size) (ht : P.underlying t = some (.slice e)) (hinfo : (P.info? e).map (fun i => (i.zero, i.size, i.bytes)) = some (some zv, size, by_)) (hby : by_ ≤ 128)
    (A : Option Addr) (n c : Nat) (xs : List Value) (ad : Addr) (m d : Nat) (ys : List Value) (hse : a.eval s = .slice A n c) (hxe : a.eval x = .slice (some ad) m d) (hown : Sl e size w A n c xs) (hm : ys.length = m * size) (hm0 : 0 < m) (hr : ∀ j u, ys[j]? = some u → w.cell? (ad.add j) = some u) (hf : ∀ u ∈ ys, u.oneCell' = true)
    (hbound : n + m ≤ 1000000000)
    (h : ∀ A' c' w', Hid (Sl e size w' A' (n + m) c' (xs ++ ys)) → Hid (Ch (OwnB A) w w') → Hid (∀ b, OwnB A' b → OwnB A b ∨ b = w.heap.size) → Hid (c < n + m → A' = some ⟨w.heap.size, 0, none⟩) → wpList P ops Q rest (a.put o.dst (.slice A' (n + m) c')) w') : wpList P ops Q (o :: rest) a w := by
  refine wpList_plain hgd fun K hK => ?_
  obtain ⟨A', c', w', hrun, h1, h2, h3, h4⟩ := run_append_slB (P := P) w t o.type e zv size by_ hzs hsz ht hinfo hby A n c xs hown ad m d ys hm hm0 hr hf hbound
  unfold Oper.wp execOp
  simp only [ho, resolve, invoke, builtin, Sem.run_bind, Sem.run_pure, Result.andThen_ok, List.map_toArray, List.map_cons, List.map_nil, hse, hxe, hrun]
  exact hK _ _ (h A' c' w' h1 h2 h3 h4)

end Go.Proofs.YtjaohgnloddgfaaGreatDoor
