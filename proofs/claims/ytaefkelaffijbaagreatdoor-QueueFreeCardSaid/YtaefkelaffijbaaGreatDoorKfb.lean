/- Programs of the memory, sorted words, the crash of a device (merged). -/
import Derived.Test.YtaefkelaffijbaaGreatDoorKfs
import Derived.Test.YtaefkelaffijbaaGreatDoorKfa
import Derived.Lib.ConvBytes
import Derived.Deep.Cut
namespace Go.Proofs.YtaefkelaffijbaaGreatDoor
open Go.RowKit
set_option linter.unusedVariables false
theorem pcells_cons (p : Ins) (ps : List Ins) : pcells (p :: ps) = .int .u8 p.1 :: .int .u64 p.2.1 :: .int .u64 p.2.2 :: pcells ps := by simp [pcells]
theorem pcells_append (ps qs : List Ins) : pcells (ps ++ qs) = pcells ps ++ pcells qs := by simp [pcells]
theorem length_pcells (ps : List Ins) : (pcells ps).length = ps.length * 3 := by
 induction ps with
 | nil => rfl
 | cons p ps ih => rw [pcells_cons, List.length_cons, List.length_cons, List.length_cons, ih, List.length_cons]; omega
theorem pcells_get (ps : List Ins) : ∀ (k : Nat) (h : k < ps.length), (pcells ps)[k * 3]? = some (.int .u8 ps[k].1) ∧ (pcells ps)[k * 3 + 1]? = some (.int .u64 ps[k].2.1) ∧ (pcells ps)[k * 3 + 2]? = some (.int .u64 ps[k].2.2) := by
 induction ps with
 | nil => intro k h; simp at h
 | cons p ps ih =>
  intro k h
  cases k with
  | zero => simp [pcells]
  | succ k =>
   have := ih k (by simpa using h)
   rw [pcells_cons, show (k + 1) * 3 = k * 3 + 1 + 1 + 1 by omega]
   simpa using this
/-- One instruction of a program. -/
theorem Sl.ins {w : World} {A : Option Addr} {m c : Nat} {ps : List Ins} (h : Sl 144 3 w A m c (pcells ps)) {k : Nat} (hk : k < ps.length) :
 ∃ g off, A = some ⟨g, off, none⟩ ∧ g < w.heap.size ∧ w.cell? ⟨g, off + k * 3, none⟩ = some (.int .u8 ps[k].1) ∧ w.cell? ⟨g, off + k * 3 + 1, none⟩ = some (.int .u64 ps[k].2.1) ∧ w.cell? ⟨g, off + k * 3 + 2, none⟩ = some (.int .u64 ps[k].2.2) := by
 obtain ⟨e1, e2, e3⟩ := pcells_get ps k hk
 obtain ⟨g, off, hA, hl, _⟩ := h.at_ (j := k * 3) (by rw [length_pcells]; omega)
 have c1 := h.cells _ hA _ _ e1
 have c2 := h.cells _ hA _ _ e2
 have c3 := h.cells _ hA _ _ e3
 have h1 : ∀ j, (⟨g, off, none⟩ : Addr).add j = ⟨g, off + j, none⟩ := by intro j; unfold Addr.add; split <;> simp_all
 rw [h1] at c1 c2 c3
 exact ⟨g, off, hA, hl, c1, c2, c3⟩
def insB (p : Ins) : Bool := decide (1 ≤ p.1) && decide (p.1 ≤ 3)

set_option maxRecDepth 100000 in
set_option maxHeartbeats 1000000 in
theorem memValid (w : World) (A : Option Addr) (n c : Nat) (ps : List Ins) (hn : ps.length = n) (hm : n ≤ 1000000000) (hS : Sl 144 3 w A n c (pcells ps)) :
 Calls Tryz.prog 75 #[.slice A n c] w fun e w' => e = .returned (.bool (ps.all insB)) ∧ Below w.heap.size w w' := by
 have HN := Lib.hid hn
 have HS := Lib.hid hS
 clear hn hS
 go_enter Tryz.func75, Tryz.ntmps75
 go_wp2
 go_loopw [7, 4, 8, 9, 10, 11, 12, 13, 14, 15, 16, 17, 18, 19] (fun i _ _ _ _ _ _ _ _ _ _ _ _ _ wr => ∃ k : Nat, k ≤ n ∧ i = .int .i64 k ∧ (ps.take k).all insB = true ∧ Below w.heap.size w wr) (fun i _ _ _ _ _ _ _ _ _ _ _ _ _ _ => n - (intOf i).toNat)
 case atStart => exact ⟨0, by omega, rfl, by simp, Below.refl _ _⟩
 case round =>
  obtain ⟨k, hk, rfl, hall, hB⟩ := hrel
  have HA := Lib.hid hall
  have HB := Lib.hid hB
  by_cases hlt : k < n
  · have hkl : k < ps.length := by rw [HN.out]; exact hlt
    obtain ⟨g, off, hA', hl, c1, c2, c3⟩ := (HS.out.keep (fun b hb => hB.block b (HS.out.lt hb))).ins hkl
    obtain ⟨⟨op, of, v⟩, hp⟩ : ∃ p, ps[k] = p := ⟨_, rfl⟩
    rw [hp] at c1 c2 c3
    have HP := Lib.hid hp
    subst hA'
    clear hall hB hp
    have hgn : ¬ g = wr.heap.size := by omega
    by_cases h1 : op < 1
    · have HR : Hid (ps.all insB = false) := all_false insB ps k hkl (by rw [HP.out]; simp [insB]; omega)
      go_wp2
      go_ret
      rw [HR.out]
      exact ⟨rfl, by have := HB.out; (repeat (first | with_reducible (first | exact Below.refl _ _ | refine bl_alloc ?_ _ | refine bl_drew ?_ | refine bl_drewN ?_ _ | refine bl_bx ?_ _ | exact BX.below _ | refine bl_set ?_ (by first | (exact Nat.le_refl _) | (simp; done) | (simp; omega)) _) | assumption))⟩
    · by_cases h3 : 3 < op
      · have HR : Hid (ps.all insB = false) := all_false insB ps k hkl (by rw [HP.out]; simp [insB]; omega)
        go_wp2
        go_ret
        rw [HR.out]
        exact ⟨rfl, by have := HB.out; (repeat (first | with_reducible (first | exact Below.refl _ _ | refine bl_alloc ?_ _ | refine bl_drew ?_ | refine bl_drewN ?_ _ | refine bl_bx ?_ _ | exact BX.below _ | refine bl_set ?_ (by first | (exact Nat.le_refl _) | (simp; done) | (simp; omega)) _) | assumption))⟩
      · go_wp2
        go_roundw
        case rel => exact ⟨k + 1, by omega, by go_num, all_take_succ insB ps k hkl HA.out (by rw [HP.out]; simp [insB]; omega), by have := HB.out; (repeat (first | with_reducible (first | exact Below.refl _ _ | refine bl_alloc ?_ _ | refine bl_drew ?_ | refine bl_drewN ?_ _ | refine bl_bx ?_ _ | exact BX.below _ | refine bl_set ?_ (by first | (exact Nat.le_refl _) | (simp; done) | (simp; omega)) _) | assumption))⟩
        case measure => simp [intOf]; omega
  · clear hall hB
    have HR : Hid (ps.all insB = true) := all_take_all insB ps k (by rw [HN.out]; exact hlt) HA.out
    go_wp2
    go_ret
    rw [HR.out]
    exact ⟨rfl, HB.out⟩

/-- What Run leaves. -/
def RunPost (F : Nat → Prop) (d : Nat) (t : Nat → Nat) (i : Nat) (S : DevS) (ps : List Ins) (w : World) (e : Ending) (w' : World) : Prop :=
 e = .returned (.int .i64 ((S.runP i ps).thr i).err) ∧ DV F d t w' (S.runP i ps) ∧ Ch F w w'

set_option maxRecDepth 100000 in
set_option maxHeartbeats 2000000 in
theorem memRun {F : Nat → Prop} {d : Nat} {t : Nat → Nat} (w : World) {S : DevS} {N : Nat} (h : DV F d t w S) (i : Nat) (hi : i < 8) (hG : Good S N) (A : Option Addr) (n c : Nat) (ps : List Ins) (hn : ps.length = n) (hS : Sl 144 3 w A n c (pcells ps)) (hA : ∀ b, OwnB A b → ¬ F b)
 (hN : N + n < 1000000) (hps : ∀ p ∈ ps, insB p = true ∧ 0 ≤ p.2.1 ∧ p.2.1 < 18446744073709551616) :
 Calls Tryz.prog 55 #[.slice A n c, .iface 84 (.pointer (some ⟨t i, 0, none⟩))] w (RunPost F d t i S ps w) := by
 have H := Lib.hid h
 have HG := Lib.hid hG
 have HNN := Lib.hid hn
 have HS := Lib.hid hS
 have HA := Lib.hid hA
 have HPS := Lib.hid hps
 have HV : Hid (Calls Tryz.prog 75 #[.slice A n c] w fun e w' => e = .returned (.bool true) ∧ Below w.heap.size w w') := by
  have := memValid w A n c ps hn (by omega) hS
  rwa [show ps.all insB = true from List.all_eq_true.2 fun p hp => (hps p hp).1] at this
 clear h hG hn hS hA hps
 go_enter Tryz.func55, Tryz.ntmps55
 go_wp2_with (first | (go_at_call 75; refine HV.out.mono ?_; rintro e w1 ⟨rfl, hb⟩; obtain ⟨x, rfl⟩ := bx_of hb; clear hb))
 have HI0 : Hid (DV F d t x.w S ∧ Ch F w x.w) := ⟨H.out.bx x, Ch.of_below x.below⟩
 obtain ⟨w1, hw1⟩ : ∃ w1, x.w = w1 := ⟨_, rfl⟩
 rw [hw1] at HI0 ⊢
 clear hw1 HV
 go_loopw [16, 6, 17, 18, 19, 20, 21, 22, 23] (fun i' _ _ _ _ _ _ _ _ wr => ∃ k : Nat, k ≤ n ∧ i' = .int .i64 k ∧ DV F d t wr (S.runP i (ps.take k)) ∧ Ch F w wr) (fun i' _ _ _ _ _ _ _ _ _ => n - (intOf i').toNat)
 case atStart => exact ⟨0, by omega, rfl, HI0.out.1, HI0.out.2⟩
 case round =>
  obtain ⟨k, hk, rfl, hD, hC⟩ := hrel
  have HD := Lib.hid hD
  have HC := Lib.hid hC
  by_cases hlt : k < n
  · have hkl : k < ps.length := by rw [HNN.out]; exact hlt
    obtain ⟨g, off, hA', hl, c1, c2, c3⟩ := (HS.out.ch hC HA.out).ins hkl
    obtain ⟨⟨op, of, v⟩, hp⟩ : ∃ p, ps[k] = p := ⟨_, rfl⟩
    rw [hp] at c1 c2 c3
    have hpp := HPS.out _ (List.getElem_mem hkl)
    rw [hp] at hpp
    have HP := Lib.hid hp
    have hgF : ¬ F g := HA.out g (by rw [hA']; simp [OwnB])
    subst hA'
    have HGk : Hid (Good (S.runP i (ps.take k)) (N + k)) := by
     have := Good.runP hi (ps.take k) HG.out (fun p hp => (HPS.out p (List.mem_of_mem_take hp)).2.1) (by rw [List.length_take]; omega)
     rwa [List.length_take, Nat.min_eq_left (by omega)] at this
    have hop : 1 ≤ op ∧ op ≤ 3 := by have := hpp.1; simpa [insB] using this
    have HOF := Lib.hid hpp.2
    have hgn : ¬ g = wr.heap.size := by omega
    clear hD hC hp hpp
    go_wp2_with (first | (go_at_call 76; refine (memExec _ (HD.out.below (by (repeat (first | with_reducible (first | exact Below.refl _ _ | refine bl_alloc ?_ _ | refine bl_drew ?_ | refine bl_drewN ?_ _ | refine bl_bx ?_ _ | exact BX.below _ | refine bl_set ?_ (by first | (exact Nat.le_refl _) | (simp; done) | (simp; omega)) _) | assumption)))) i hi HGk.out (by omega) op of v HOF.out hop).mono ?_; rintro e w2 ⟨rfl, hD2, hC2⟩; have HD2 := Lib.hid hD2; have HC2 := Lib.hid hC2; clear hD2 hC2))
    go_roundw
    case rel =>
     refine ⟨k + 1, by omega, by go_num, ?_, (HC.out.alloc _).trans HC2.out (fun _ h _ => h)⟩
     rw [List.take_succ_eq_append_getElem hkl, runP_snoc, HP.out]
     exact HD2.out
    case measure => simp [intOf]; omega
  · obtain rfl : k = n := by omega
    clear hD hC
    have hE : ps.take k = ps := List.take_of_length_le (by rw [HNN.out]; omega)
    rw [hE] at HD
    have HER : Hid (Calls Tryz.prog 62 #[.pointer (some ⟨t i, 0, none⟩)] wr fun e w' => e = .returned (.int .i64 ((S.runP i ps).thr i).err) ∧ wr = w') := by
     obtain ⟨_, L, rfl, h3, _⟩ := HD.out
     exact thErr wr d L _ h3 i hi
    clear hE
    go_wp2_with (first | (go_at_call 62; refine HER.out.mono ?_; rintro e w2 ⟨rfl, rfl⟩))
    go_ret
    exact ⟨rfl, HD.out, HC.out⟩
theorem q_same {P : Program} {f : FuncId} {args : Array Value} {w : World} {n : Nat} {v : Value} (h : Calls P f args (w.drewN n) fun e w' => e = .returned v ∧ w.drewN n = w') : Calls P f args (w.drewN n) fun e w'' => e = .returned v ∧ ∃ m, w'' = w.drewN m :=
 h.mono fun _ _ ⟨he, hm⟩ => ⟨he, n, hm.symm⟩
theorem isNaNU (w : World) (x : Int) : Calls Tryz.prog 147 #[.int .u64 x] w fun e w' => e = .returned (.bool false) ∧ w = w' := by
 have h : (x != x) = false := by simp
 go_enter Tryz.func147, Tryz.ntmps147
 go_wp2
 go_ret
 exact ⟨rfl, rfl⟩
set_option maxRecDepth 100000 in
theorem lessU (w : World) (x y : Int) : Calls Tryz.prog 122 #[.int .u64 x, .int .u64 y] w fun e w' => e = .returned (.bool (decide (x < y))) ∧ w = w' := by
 go_enter Tryz.func122, Tryz.ntmps122
 go_wp2_with (go_at_call 147; refine (isNaNU _ _).mono ?_; rintro e w' ⟨rfl, rfl⟩)
 go_ret
 exact ⟨rfl, rfl⟩

set_option maxRecDepth 100000 in
set_option maxHeartbeats 1000000 in
theorem insU (w : World) (A : Option Addr) (n c : Nat) (xs : List Int) (hn : xs.length = n) (h1 : 1 ≤ n) (hm : n ≤ 1000) (hR : Rd .u64 w A xs) (hs : xs.Pairwise (· ≤ ·)) :
 Calls Tryz.prog 116 #[.slice A n c, .int .i64 0, .int .i64 (n : Int)] w fun e w' => e = .returned (.tuple #[]) ∧ ∃ m, w' = w.drewN m := by
 have HN := Lib.hid hn
 have HR := Lib.hid hR
 have HS := Lib.hid hs
 clear hn hR hs
 go_enter Tryz.func116, Tryz.ntmps116
 go_wp2
 go_loopw [6, 7, 10, 11, 12, 13, 14, 15, 16, 17, 18, 19, 20, 21, 22, 23, 24, 25, 26, 27, 28, 29, 30, 31, 32, 33, 34, 35, 36, 37, 38, 39, 40, 41, 42, 43, 44, 45, 46, 47, 48] (fun i _ _ _ _ _ _ _ _ _ _ _ _ _ _ _ _ _ _ _ _ _ _ _ _ _ _ _ _ _ _ _ _ _ _ _ _ _ _ _ _ wr => ∃ k m : Nat, 1 ≤ k ∧ k ≤ n ∧ i = .int .i64 k ∧ wr = w.drewN m) (fun i _ _ _ _ _ _ _ _ _ _ _ _ _ _ _ _ _ _ _ _ _ _ _ _ _ _ _ _ _ _ _ _ _ _ _ _ _ _ _ _ _ => n - (intOf i).toNat)
 case atStart => exact ⟨1, 0, by omega, by omega, rfl, rfl⟩
 case round =>
  obtain ⟨k, m, hk1, hk, rfl, rfl⟩ := hrel
  by_cases hlt : k < n
  · obtain ⟨j, rfl⟩ : ∃ j, k = j + 1 := ⟨k - 1, by omega⟩
    have hkl : j + 1 < xs.length := by rw [HN.out]; exact hlt
    obtain ⟨g, off, hA, hl, c1⟩ := HR.out.at_ hkl
    obtain ⟨g', off', hA', _, c0⟩ := HR.out.at_ (i := j) (by omega)
    rw [hA] at hA'
    injection hA' with hA'
    injection hA' with hA' hA''
    subst hA hA' hA''
    have hle := List.pairwise_iff_getElem.1 HS.out j (j + 1) (by omega) hkl (by omega)
    have hd : decide (xs[j + 1] < xs[j]) = false := by simp; omega
    have hd0 : decide ((j : Int) + 1 > 0) = true := decide_eq_true (by omega)
    have hd1 : decide (0 < (j : Int) + 1) = true := decide_eq_true (by omega)
    have q1 : ((j + 1 : Nat) : Int) = (j : Int) + 1 := by omega
    have q2 : (j : Int) + 1 - 1 = (j : Int) := by omega
    have q3 : IntKind.i64.wrap ((j : Int) + 1 - 1) = (j : Int) := by rw [q2]; exact IntWalk.i64_in _ (by omega)
    have q4 : ((j : Int) + 1).toNat = j + 1 := by omega
    clear hle
    obtain ⟨W, hW⟩ : ∃ W, w.drewN m = W := ⟨_, rfl⟩
    have c0' : W.cell? ⟨g, off + j, none⟩ = some (.int .u64 xs[j]) := by rw [← hW]; exact c0
    have c1' : W.cell? ⟨g, off + (j + 1), none⟩ = some (.int .u64 xs[j + 1]) := by rw [← hW]; exact c1
    have hl' : g < W.heap.size := by rw [← hW]; exact hl
    rw [hW]
    have HW := Lib.hid hW
    clear hW
    rw [q1]
    go_wp2
    refine wp_loop_rounds 1 ?_
    rw [rounds_succ]
    go_wp2
    refine wp_region_quiet_lit (by kernel_rfl) (by kernel_rfl) ?_
    repeat (go_big_quiet_step ((go_at_call 122; exact q_same (lessU _ _ _))))
    refine wpQuiet_nil ?_
    rintro _ ⟨nq, rfl⟩
    go_wp2
    exact ⟨⟨j + 2, m + nq, by omega, by omega, by go_num, by rw [← HW.out, World.drewN_drewN]⟩, by simp [intOf]; omega⟩
  · go_wp2
    go_end0
    exact ⟨rfl, m, rfl⟩

set_option maxRecDepth 100000 in
set_option maxHeartbeats 1000000 in
theorem pdqU (w : World) (A : Option Addr) (n c : Nat) (xs : List Int) (lim : Int) (hn : xs.length = n) (h1 : 1 ≤ n) (hm : n ≤ 12) (hR : Rd .u64 w A xs) (hs : xs.Pairwise (· ≤ ·)) :
 Calls Tryz.prog 101 #[.slice A n c, .int .i64 0, .int .i64 (n : Int), .int .i64 lim] w fun e w' => e = .returned (.tuple #[]) ∧ ∃ m, w' = w.drewN m := by
 have HI := Lib.hid (insU w A n c xs hn h1 (by omega) hR hs)
 have h12 : (n : Int) ≤ 12 := by omega
 clear hn hR hs
 go_enter Tryz.func101, Tryz.ntmps101
 go_wp2
 refine wp_loop_rounds 1 ?_
 rw [rounds_succ]
 go_wp2_with (go_at_call 116; refine HI.out.mono ?_; rintro e w' ⟨rfl, m, rfl⟩)
 exact bodyPost_ret (v := .tuple #[]) (by simp [results, Tryz.results101, go_sem]) rfl ⟨rfl, m, rfl⟩

/-- Some number. -/
def SomeI (w : World) (e : Ending) (w' : World) : Prop := ∃ z : Int, e = .returned (.int .i64 z) ∧ w = w'
set_option maxRecDepth 100000 in
set_option maxHeartbeats 1000000 in
theorem bitsLen64 (w : World) (n : Nat) (hm : n ≤ 12) : Calls Tryz.prog 126 #[.int .u64 (n : Int)] w (SomeI w) := by
 have e1 : ¬ (4294967296 : Int) ≤ (n : Int) := by omega
 have e2 : ¬ (65536 : Int) ≤ (n : Int) := by omega
 have e3 : ¬ (256 : Int) ≤ (n : Int) := by omega
 have e4 : IntKind.u8.wrap (n : Int) = (n : Int) := by rw [IntKind.wrap_u8]; omega
 go_enter Tryz.func126, Tryz.ntmps126
 go_wp2
 go_ret
 exact ⟨_, rfl, rfl⟩
set_option maxRecDepth 100000 in
set_option maxHeartbeats 1000000 in
theorem bitsLen (w : World) (n : Nat) (hm : n ≤ 12) : Calls Tryz.prog 102 #[.int .u64 (n : Int)] w (SomeI w) := by
 have HI := Lib.hid (fun w => bitsLen64 w n hm)
 go_enter Tryz.func102, Tryz.ntmps102
 go_wp2_with (go_at_call 126; refine (HI.out _).mono ?_; rintro e w' ⟨z, rfl, rfl⟩)
 go_ret
 exact ⟨_, rfl, rfl⟩
set_option maxRecDepth 100000 in
set_option maxHeartbeats 1000000 in
theorem sortU (w : World) (A : Option Addr) (n c : Nat) (xs : List Int) (hn : xs.length = n) (h1 : 1 ≤ n) (hm : n ≤ 12) (hR : Rd .u64 w A xs) (hs : xs.Pairwise (· ≤ ·)) :
 Calls Tryz.prog 73 #[.slice A n c] w fun e w' => e = .returned (.tuple #[]) ∧ ∃ m, w' = w.drewN m := by
 have HI := Lib.hid (fun z => pdqU w A n c xs z hn h1 hm hR hs)
 have hw : IntKind.u64.wrap (n : Int) = (n : Int) := IntWalk.u64_in _ (by omega)
 clear hn hR hs
 go_enter Tryz.func73, Tryz.ntmps73
 go_wp2_with (first | (go_at_call 102; refine (bitsLen _ n hm).mono ?_; rintro e w' ⟨z, rfl, rfl⟩) | (go_at_call 101; refine (HI.out z).mono ?_; rintro e w' ⟨rfl, m, rfl⟩))
 go_end0
 exact ⟨rfl, m, rfl⟩
theorem run_clear_ints {P : Program} (w : World) (t ty elem : TypeId) (k : IntKind) (e : TypeId) (ht : P.underlying t = some (.slice elem)) (hz : (zeroValue elem).run P w = .ok (.int k 0) w)
 (g off n c : Nat) (xs : List Int) (hb : IB k e w g xs) (hn : 0 < n) (hfit : off + n ≤ xs.length) :
 ∃ w', (Builtin.clear_ #[t] ty #[.slice (some ⟨g, off, none⟩) n c]).run P w = .ok (.tuple #[]) w' ∧ IB k e w' g (splice xs off (List.replicate n 0)) ∧ Ch (At g) w w' := by
 have hzc : (Builtin.zeroCells (Value.cells (.int k 0)) n).toList = (List.replicate n (0 : Int)).map (Value.int k) := by
  apply List.ext_getElem
  · simp [Builtin.zeroCells, Value.cells]
  · intro i h1 h2
    simp [Builtin.zeroCells, Value.cells, Nat.mod_one]
 unfold IB ia at hb
 have hst := run_storeCells_at P g off e ((List.replicate n (0 : Int)).map (Value.int k)) 0 (xs.map (Value.int k)).toArray w hb (by simpa using hfit) (fun v hv => by
  obtain ⟨y, _, rfl⟩ := List.mem_map.1 hv
  rfl)
 simp only [Nat.add_zero] at hst
 obtain ⟨m, rfl⟩ : ∃ m, n = m + 1 := ⟨n - 1, by omega⟩
 refine ⟨w.setRow g ((xs.map (Value.int k)).toArray.toList.take off ++ (List.replicate (m + 1) (0 : Int)).map (Value.int k) ++ (xs.map (Value.int k)).toArray.toList.drop (off + ((List.replicate (m + 1) (0 : Int)).map (Value.int k)).length)).toArray, ?_, ?_, ch_setRow g _⟩
 · unfold Builtin.clear_
   simp [run_underlying ht, hz, hzc, hst, -List.map_replicate]
 · have h1 := setRow_heap w g _ ((xs.map (Value.int k)).toArray.toList.take off ++ (List.replicate (m + 1) (0 : Int)).map (Value.int k) ++ (xs.map (Value.int k)).toArray.toList.drop (off + ((List.replicate (m + 1) (0 : Int)).map (Value.int k)).length)).toArray e (0, 0) hb
   unfold IB ia
   rw [map_splice]
   simpa [splice] using h1

/-- Without repetitions of neighbours. -/
def cpt (xs : List Int) : List Int := xs.foldl (fun acc x => if acc.getLast? = some x then acc else acc ++ [x]) []
theorem cpt_snoc (xs : List Int) (x : Int) : cpt (xs ++ [x]) = if (cpt xs).getLast? = some x then cpt xs else cpt xs ++ [x] := by
 unfold cpt; rw [List.foldl_append]; rfl
theorem cpt_last (xs : List Int) : ∀ k, (cpt (xs.take k)).getLast? = (xs.take k).getLast? := by
 intro k
 induction k with
 | zero => simp [cpt]
 | succ k ih =>
  by_cases hk : k < xs.length
  · rw [List.take_succ_eq_append_getElem hk, cpt_snoc]
    split
    · rename_i h; rw [h]; simp [-List.take_append_getElem]
    · simp [-List.take_append_getElem]
  · rw [List.take_of_length_le (by omega)]
    rw [List.take_of_length_le (by omega)] at ih
    exact ih
theorem take_last (xs : List Int) (k : Nat) (hk : k < xs.length) : (xs.take (k + 1)).getLast? = some xs[k] := by
 rw [List.take_succ_eq_append_getElem hk]; simp [-List.take_append_getElem]
theorem cpt_eq (xs : List Int) (k : Nat) (hk : k + 1 < xs.length) (h : xs[k + 1] = xs[k]) : cpt (xs.take (k + 2)) = cpt (xs.take (k + 1)) := by
 rw [List.take_succ_eq_append_getElem hk, cpt_snoc, cpt_last, take_last xs k (by omega), h, if_pos rfl]
theorem cpt_ne (xs : List Int) (k : Nat) (hk : k + 1 < xs.length) (h : xs[k + 1] ≠ xs[k]) : cpt (xs.take (k + 2)) = cpt (xs.take (k + 1)) ++ [xs[k + 1]] := by
 rw [List.take_succ_eq_append_getElem hk, cpt_snoc, cpt_last, take_last xs k (by omega), if_neg (fun h' => h (by injection h' with h'; exact h'.symm))]
theorem cpt_one (xs : List Int) : cpt (xs.take 1) = xs.take 1 := by
 cases xs with
 | nil => simp [cpt]
 | cons x xs => simp [cpt]
/-- What Compact leaves. -/
def CptPost (w : World) (g n c : Nat) (xs : List Int) (e : Ending) (w' : World) : Prop :=
 ∃ zs, e = .returned (.slice (some ⟨g, 0, none⟩) (cpt xs).length c) ∧ IB .u64 34 w' g zs ∧ zs.take (cpt xs).length = cpt xs ∧ Ch (At g) w w'
/-- The inner loop's invariant: p words are read, k are kept. -/
def CptIn (w : World) (g n : Nat) (xs : List Int) (p k : Nat) (wr : World) : Prop :=
 ∃ ys : List Int, IB .u64 34 wr g ys ∧ ys.length = n ∧ ys.take k = cpt (xs.take p) ∧ k = (cpt (xs.take p)).length ∧ k + 1 ≤ p ∧ (∀ j, p ≤ j + 1 → ys[j]? = xs[j]?) ∧ Ch (At g) w wr

theorem CptIn.keep {w wr : World} {g n p k : Nat} {xs : List Int} (h : CptIn w g n xs p k wr) (nq : Nat) : CptIn w g n xs p k (wr.drewN nq) := by
 obtain ⟨ys, h1, h2, h3, h4, h5, h6, h7⟩ := h
 exact ⟨ys, h1.drewN nq, h2, h3, h4, h5, h6, h7.drewN nq⟩
theorem CptIn.skip {w wr : World} {g n p k : Nat} {xs : List Int} (h : CptIn w g n xs (p + 1) k wr) (hx : xs.length = n) (hp : p + 1 < n) (he : xs[p + 1]? = xs[p]?) : CptIn w g n xs (p + 2) k wr := by
 obtain ⟨ys, h1, h2, h3, h4, h5, h6, h7⟩ := h
 have e : cpt (xs.take (p + 2)) = cpt (xs.take (p + 1)) := cpt_eq xs p (by omega) (by
  rw [List.getElem?_eq_getElem (by omega), List.getElem?_eq_getElem (by omega)] at he
  injection he)
 exact ⟨ys, h1, h2, by rw [e]; exact h3, by rw [e]; exact h4, by omega, fun j hj => h6 j (by omega), h7⟩
theorem CptIn.take {w wr : World} {g n p k : Nat} {xs : List Int} (h : CptIn w g n xs (p + 1) k wr) (hx : xs.length = n) (hp : p + 1 < n) (v : Int) (hv : xs[p + 1]? = some v) (he : xs[p + 1]? ≠ xs[p]?) :
 CptIn w g n xs (p + 2) (k + 1) (wr.setCell ⟨g, k, none⟩ (.int .u64 v)) := by
 obtain ⟨ys, h1, h2, h3, h4, h5, h6, h7⟩ := h
 have hv' : xs[p + 1]'(by omega) = v := by rw [List.getElem?_eq_getElem (by omega)] at hv; injection hv
 have e : cpt (xs.take (p + 2)) = cpt (xs.take (p + 1)) ++ [v] := by
  rw [cpt_ne xs p (by omega) (fun h => he (by rw [List.getElem?_eq_getElem (by omega), List.getElem?_eq_getElem (by omega), h])), hv']
 have hk : k < ys.length := by omega
 refine ⟨ys.set k v, h1.set k v, by simpa using h2, ?_, by rw [e]; simp; omega, by omega, fun j hj => ?_, h7.set1 k _⟩
 · rw [e, List.take_succ_eq_append_getElem (by simpa using hk), List.take_set_of_le (Nat.le_refl k), h3]
   simp
 · rw [List.getElem?_set, if_neg (by omega)]
   exact h6 j (by omega)

set_option maxRecDepth 100000 in
set_option maxHeartbeats 4000000 in
theorem compactU (w : World) (g n : Nat) (xs : List Int) (hn : xs.length = n) (h1 : 1 ≤ n) (hm : n ≤ 1000000) (hI : IB .u64 34 w g xs) :
 Calls Tryz.prog 74 #[.slice (some ⟨g, 0, none⟩) n n] w (CptPost w g n n xs) := by
 have HN := Lib.hid hn
 have HI := Lib.hid hI
 have hgl := hI.lt
 clear hn hI
 by_cases h2 : n < 2
 · obtain rfl : n = 1 := by omega
   have HC : Hid (cpt xs = xs) := by
    have := cpt_one xs
    rwa [List.take_of_length_le (by rw [HN.out]; omega)] at this
   go_enter Tryz.func74, Tryz.ntmps74
   go_wp2
   go_ret
   refine ⟨xs, ?_, HI.out, ?_, Ch.refl _ _⟩
   · rw [HC.out, HN.out]; rfl
   · rw [HC.out, List.take_length]
 · have h2' : ¬ (n : Int) < 2 := by omega
   go_enter Tryz.func74, Tryz.ntmps74
   go_wp2
   go_loopw [3, 4, 5, 10, 11, 12, 13, 14, 15, 16, 17, 18, 19, 20, 21, 22, 23, 24, 25, 26, 27, 28, 29, 30, 31, 32, 33, 34, 35, 36, 37, 38, 39, 40, 41, 42, 43, 44, 45, 46, 47, 48, 49, 50, 51, 52, 53, 54, 55, 56, 57, 58, 59, 2] (fun i _ _ _ _ _ _ _ _ _ _ _ _ _ _ _ _ _ _ _ _ _ _ _ _ _ _ _ _ _ _ _ _ _ _ _ _ _ _ _ _ _ _ _ _ _ _ _ _ _ _ _ _ _ wr => ∃ k m : Nat, 1 ≤ k ∧ k ≤ n ∧ i = .int .i64 k ∧ cpt (xs.take k) = xs.take k ∧ wr = w.drewN m) (fun i _ _ _ _ _ _ _ _ _ _ _ _ _ _ _ _ _ _ _ _ _ _ _ _ _ _ _ _ _ _ _ _ _ _ _ _ _ _ _ _ _ _ _ _ _ _ _ _ _ _ _ _ _ _ => n - (intOf i).toNat)
   case atStart => exact ⟨1, 0, by omega, by omega, rfl, cpt_one xs, rfl⟩
   case round =>
    obtain ⟨k, m, hk1, hk, rfl, hcp, rfl⟩ := hrel
    have HCP := Lib.hid hcp
    clear hcp
    by_cases hlt : k < n
    · obtain ⟨j, rfl⟩ : ∃ j, k = j + 1 := ⟨k - 1, by omega⟩
      obtain ⟨x1, hx1⟩ : ∃ x, xs[j + 1]? = some x := ⟨xs[j + 1]'(by rw [HN.out]; exact hlt), List.getElem?_eq_getElem _⟩
      obtain ⟨x0, hx0⟩ : ∃ x, xs[j]? = some x := ⟨xs[j]'(by rw [HN.out]; omega), List.getElem?_eq_getElem _⟩
      obtain ⟨W, hW⟩ : ∃ W, w.drewN m = W := ⟨_, rfl⟩
      have HIW : Hid (IB .u64 34 W g xs) := by show IB _ _ _ _ _; rw [← hW]; exact HI.out.drewN m
      have HBW : Hid (Ch (At g) w W) := by show Ch _ _ _; rw [← hW]; exact (Ch.refl _ _).drewN m
      have c0 : W.cell? ⟨g, j, none⟩ = some (.int .u64 x0) := by
       rw [HIW.out.cell (by rw [HN.out]; omega)]
       rw [List.getElem?_eq_getElem (by rw [HN.out]; omega)] at hx0
       injection hx0 with hx0
       rw [hx0]
      have c1 : W.cell? ⟨g, j + 1, none⟩ = some (.int .u64 x1) := by
       rw [HIW.out.cell (by rw [HN.out]; omega)]
       rw [List.getElem?_eq_getElem (by rw [HN.out]; omega)] at hx1
       injection hx1 with hx1
       rw [hx1]
      have hgW : g < W.heap.size := HIW.out.lt
      have q1 : ((j + 1 : Nat) : Int) = (j : Int) + 1 := by omega
      have q2 : (j : Int) + 1 - 1 = (j : Int) := by omega
      have q3 : IntKind.i64.wrap ((j : Int) + 1 - 1) = (j : Int) := by rw [q2]; exact IntWalk.i64_in _ (by omega)
      have q4 : ((j : Int) + 1).toNat = j + 1 := by omega
      have HX1 := Lib.hid hx1
      have HX0 := Lib.hid hx0
      have hlt' : (j : Int) + 1 < (n : Int) := by omega
      rw [hW]
      have HW := Lib.hid hW
      clear hW hx1 hx0
      rw [q1]
      by_cases he : x1 = x0
      · subst he
        have he' : (x1 == x1) = true := by simp
        have HI0 : Hid (CptIn w g n xs (j + 2) (j + 1) W) := by
         show CptIn _ _ _ _ _ _ _
         have hlj : j + 1 < xs.length := by rw [HN.out]; exact hlt
         have e : cpt (xs.take (j + 2)) = xs.take (j + 1) := by
          rw [cpt_eq xs j hlj (by
           have a := HX1.out; have b := HX0.out
           rw [List.getElem?_eq_getElem (by omega)] at a b
           injection a with a; injection b with b; rw [a, b])]
          exact HCP.out
         exact ⟨xs, HIW.out, HN.out, by rw [e], by rw [e, List.length_take]; omega, by omega, fun _ _ => rfl, HBW.out⟩
        go_upto_region 6 with (fail)
        go_quiet (fail)
        go_wp2
        have HI1 := Lib.hid (HI0.out.keep nq)
        clear HI0 c0 c1 HIW HBW HX1 HX0 HW he' hgW q1 q2 q3 q4
        obtain ⟨W1, hW1⟩ : ∃ W1, W.drewN nq = W1 := ⟨_, rfl⟩
        rw [hW1] at HI1 ⊢
        clear hW1
        go_loopw [5, 3, 29, 30, 31, 32, 33, 34, 35, 36, 37, 38, 39, 40, 41, 42, 43, 44, 45, 46, 47, 48, 49, 50, 51, 52, 53] (fun a b _ _ _ _ _ _ _ _ _ _ _ _ _ _ _ _ _ _ _ _ _ _ _ _ _ wr => ∃ k2 kk : Nat, 1 ≤ k2 ∧ j + 1 + k2 ≤ n ∧ a = .int .i64 k2 ∧ b = .int .i64 kk ∧ CptIn w g n xs (j + 1 + k2) kk wr) (fun a _ _ _ _ _ _ _ _ _ _ _ _ _ _ _ _ _ _ _ _ _ _ _ _ _ _ _ => n - (intOf a).toNat)
        case atStart => exact ⟨1, j + 1, by omega, by omega, rfl, by go_num, HI1.out⟩
        case round =>
         obtain ⟨k2, kk, hk2, hk3, rfl, rfl, hIn⟩ := hrel
         have HIn := Lib.hid hIn
         obtain ⟨ys, hI2, hyl, htk, hkl, hkp, hint, hCh⟩ := hIn
         have hgr := hI2.lt
         obtain ⟨e, rfl⟩ : ∃ e, k2 = e + 1 := ⟨k2 - 1, by omega⟩
         have q1 : ((e + 1 : Nat) : Int) = (e : Int) + 1 := by omega
         have q2 : (e : Int) + 1 - 1 = (e : Int) := by omega
         have q3 : IntKind.i64.wrap ((e : Int) + 1 - 1) = (e : Int) := by rw [q2]; exact IntWalk.i64_in _ (by omega)
         have q4 : ((e : Int) + 1).toNat = e + 1 := by omega
         by_cases hl2 : j + 1 + (e + 1) < n
         · have hl2' : (e : Int) + 1 < ((n - (j + 1) : Nat) : Int) := by omega
           have hl3 : e + 1 < n - (j + 1) := by omega
           have hl4 : e < n - (j + 1) := by omega
           obtain ⟨y1, hy1⟩ : ∃ x, xs[j + 1 + (e + 1)]? = some x := ⟨xs[j + 1 + (e + 1)]'(by rw [HN.out]; exact hl2), List.getElem?_eq_getElem _⟩
           obtain ⟨y0, hy0⟩ : ∃ x, xs[j + 1 + e]? = some x := ⟨xs[j + 1 + e]'(by rw [HN.out]; omega), List.getElem?_eq_getElem _⟩
           have c1 : wr.cell? ⟨g, j + 1 + (e + 1), none⟩ = some (.int .u64 y1) := by
            have := hint (j + 1 + (e + 1)) (by omega)
            rw [hy1, List.getElem?_eq_getElem (by omega)] at this
            rw [hI2.cell (by omega)]; injection this with this; rw [this]
           have c0 : wr.cell? ⟨g, j + 1 + e, none⟩ = some (.int .u64 y0) := by
            have := hint (j + 1 + e) (by omega)
            rw [hy0, List.getElem?_eq_getElem (by omega)] at this
            rw [hI2.cell (by omega)]; injection this with this; rw [this]
           obtain ⟨yk, ck⟩ : ∃ v, wr.cell? ⟨g, kk, none⟩ = some v := ⟨_, hI2.cell (by omega)⟩
           have fk := hI2.frozen kk
           have hkn : kk < n := by omega
           have HY1 := Lib.hid hy1
           have HY0 := Lib.hid hy0
           rw [q1]
           clear hint htk hkl hI2 hyl hCh hkp hy1 hy0
           by_cases hne : y1 = y0
           · subst hne
             have hb : (y1 != y1) = false := by simp
             go_upto_region 11 with (fail)
             go_quiet (fail)
             go_wp2
             refine ⟨⟨e + 2, kk, by omega, by omega, by go_num, rfl, ?_⟩, by simp [intOf]; omega⟩
             have := (HIn.out.keep nq).skip (p := j + 1 + e) HN.out hl2 (HY1.out.trans HY0.out.symm)
             exact this
           · have hb : (y1 != y0) = true := by simpa using hne
             go_upto_region 11 with (fail)
             go_quiet (fail)
             go_wp2
             refine ⟨⟨e + 2, kk + 1, by omega, by omega, by go_num, by go_num, ?_⟩, by simp [intOf]; omega⟩
             have := (HIn.out.keep nq).take (p := j + 1 + e) HN.out hl2 y1 HY1.out (by rw [show j + 1 + e + 1 = j + 1 + (e + 1) by omega, HY1.out, HY0.out]; simpa using hne)
             exact this
         · obtain rfl : n = j + 1 + (e + 1) := by omega
           have hl2' : ¬ (e : Int) + 1 < ((j + 1 + (e + 1) - (j + 1) : Nat) : Int) := by omega
           have hkn : kk < j + 1 + (e + 1) := by omega
           have hkn' : ¬ ((j + 1 + (e + 1) : Nat) : Int) < (kk : Int) := by omega
           have hkn2 : ¬ j + 1 + (e + 1) < kk := by omega
           have hkn3 : ¬ j + 1 + (e + 1) = kk := by omega
           obtain ⟨w2, hr2, hI3, hC3⟩ := run_clear_ints (P := Tryz.prog) wr 40 0 34 .u64 34 Tryz.underlying40 (by kernel_rfl) g kk (j + 1 + (e + 1) - kk) (j + 1 + (e + 1) - kk) ys hI2 (by omega) (by omega)
           have HR2 := Lib.hid hr2
           have HI3 := Lib.hid hI3
           have HC3 := Lib.hid hC3
           have HF : Hid (kk = (cpt xs).length ∧ ys.take kk = cpt xs) := by
            show _ ∧ _
            have ex : xs.take (j + 1 + (e + 1)) = xs := List.take_of_length_le (by rw [HN.out]; omega)
            rw [ex] at htk hkl
            exact ⟨hkl, htk⟩
           have HCh := Lib.hid hCh
           have hyl' : kk ≤ ys.length := by omega
           clear hint htk hkl hI2 hyl hCh hr2 hI3 hC3
           rw [q1]
           go_wp2
           rw [HR2.out]
           go_wp2
           go_ret
           refine ⟨_, ?_, HI3.out, ?_, HCh.out.trans HC3.out (fun _ h _ => h)⟩
           · rw [← HF.out.1]; rfl
           · rw [← HF.out.1, ← HF.out.2]
             unfold splice
             rw [List.take_append_of_le_length (by rw [List.length_take]; omega), List.take_take, Nat.min_self]
      · have he' : (x1 == x0) = false := by simpa using he
        go_upto_region 6 with (fail)
        go_quiet (fail)
        go_wp2
        refine ⟨⟨j + 2, m + nq, by omega, by omega, by go_num, ?_, by rw [← HW.out, World.drewN_drewN]⟩, by simp [intOf]; omega⟩
        have hlj : j + 1 < xs.length := by rw [HN.out]; exact hlt
        have a := HX1.out
        have b := HX0.out
        rw [List.getElem?_eq_getElem (by omega)] at a b
        injection a with a
        injection b with b
        rw [cpt_ne xs j hlj (by rw [a, b]; exact he), HCP.out, ← List.take_succ_eq_append_getElem hlj]
    · obtain rfl : k = n := by omega
      go_wp2
      go_ret
      have hE : cpt xs = xs := by have := HCP.out; rwa [List.take_of_length_le (by rw [HN.out]; omega)] at this
      exact ⟨xs, by rw [hE, HN.out]; rfl, HI.out.drewN m, by rw [hE, List.take_length], (Ch.refl _ _).drewN m⟩
def startOf (off : Int) : Int := off - off % 64
theorem memStart (w : World) (off : Int) (h : 0 ≤ off ∧ off < 18446744073709551616) : Calls Tryz.prog 72 #[.int .u64 off] w fun e w' => e = .returned (.int .u64 (startOf off)) ∧ w = w' := by
 obtain ⟨h1, h2⟩ := h
 have e1 : IntKind.u64.wrap (off - off % 64) = off - off % 64 := IntWalk.u64_in _ (by omega)
 unfold startOf
 go_enter Tryz.func72, Tryz.ntmps72
 go_wp2
 go_ret
 exact ⟨rfl, rfl⟩

theorem info_instr : (Tryz.prog.info? 144).map (fun i => (i.zero, i.size, i.bytes)) = some (some (.agg #[.int .u8 0, .int .u64 0, .int .u64 0]), 3, 24) := by kernel_rfl

/-- make of an empty slice of words with room for n. -/
theorem run_make_room {P : Program} (t e : TypeId) (n : Nat) (ht : P.underlying t = some (.slice e)) (hinfo : (P.info? e).map (fun i => (i.zero, i.size, i.bytes)) = some (some (.int .u64 0), 1, 8)) (hn : n ≤ 1000000) (w : World) :
 (Instr.makeSlice t (.int .i64 0) (.int .i64 (n : Int))).run P w = .ok (.slice (some ⟨w.heap.size, 0, none⟩) 0 n) (w.alloc (.cells (ia .u64 (List.replicate n (0 : Int))) e)) := by
 cases hi : P.info? e with
 | none => rw [hi] at hinfo; cases hinfo
 | some i =>
  rw [hi] at hinfo
  simp only [Option.map_some, Option.some.injEq, Prod.mk.injEq] at hinfo
  obtain ⟨hz, hs, hb⟩ := hinfo
  have hr := run_make (P := P) w t e i (.int .u64 0) ht hi hz .i64 .i64 0 n (by omega) (by omega) (by rw [hb]; omega) (by omega)
  rw [hr, hs]
  simp only [Int.toNat_natCast, Nat.mul_one, Int.toNat_zero]
  congr 3
  congr 1
  simp only [madeCells, Value.cells, ia, List.map_replicate]
  apply Array.ext
  · simp
  · intro i h1 h2
    simp [Nat.mod_one]
/-- append of one word to a slice with room. -/
theorem wpList_append_ib {P : Program} {w : World} {ops : Array Oper} {rest : List Oper} {o : Oper} {a : Act} {Q : Exit → Act → World → Prop} (hgd : o.guard = none) (s x : Operand) (t : TypeId)
 (ho : o.op = .call { callee := .builtin .append, args := #[s, x], argTypes := #[t, t] }) (e : TypeId) (ht : P.underlying t = some (.slice e)) (hinfo : (P.info? e).map (fun i => (i.zero, i.size, i.bytes)) = some (some (.int .u64 0), 1, 8))
 (g k c : Nat) (ad : Addr) (d : Nat) (v : Int) (xs : List Int) (hse : a.eval s = .slice (some ⟨g, 0, none⟩) k c) (hxe : a.eval x = .slice (some ad) 1 d) (hI : IB .u64 e w g xs) (hk : k < c) (hc : c ≤ xs.length) (hv : w.cell? (ad.add 0) = some (.int .u64 v))
 (h : wpList P ops Q rest (a.put o.dst (.slice (some ⟨g, 0, none⟩) (k + 1) c)) (w.setCell ⟨g, k, none⟩ (.int .u64 v))) : wpList P ops Q (o :: rest) a w := by
 refine wpList_plain hgd fun K hK => ?_
 cases hi : P.info? e with
 | none => rw [hi] at hinfo; cases hinfo
 | some i =>
  rw [hi] at hinfo
  simp only [Option.map_some, Option.some.injEq, Prod.mk.injEq] at hinfo
  obtain ⟨hz, hs, hb⟩ := hinfo
  have hrun := run_append_room_cells (P := P) w t o.type e i ht hi g 0 k c ad 1 d [.int .u64 v] (by rw [hs]; rfl) (fun j u hj => by
   cases j with
   | zero => simp at hj; subst hj; exact hv
   | succ j => simp at hj) (fun u hu => by simp at hu; subst hu; rfl) (by omega)
   (fun j hj => by
    obtain rfl : j = 0 := by simpa using hj
    rw [hs, show 0 + k * 1 + 0 = k by omega, hI.cell (by omega)]; rfl) (fun j hj => hI.frozen _)
  have e1 : w.setCells g (0 + k * i.size) [.int .u64 v] = w.setCell ⟨g, k, none⟩ (.int .u64 v) := by rw [hs]; simp [World.setCells]
  rw [e1] at hrun
  unfold Oper.wp execOp
  simp only [ho, resolve, invoke, builtin, Sem.run_bind, Sem.run_pure, Result.andThen_ok, List.map_toArray, List.map_cons, List.map_nil, hse, hxe, hrun]
  exact hK _ _ h

/-- The stores of writes. -/
def insSt (ws : List (Int × Int)) : List Ins := ws.map fun p => (1, p.1, p.2)
def insFl (ls : List Int) : List Ins := ls.map fun l => (2, l, 0)
def starts (ws : List (Int × Int)) : List Int := ws.map fun p => startOf p.1
/-- The program of Stores. -/
def storesP (ws : List (Int × Int)) : List Ins := insSt ws ++ insFl (cpt (starts ws)) ++ [(3, 0, 0)]
theorem ins_one (a b c : Int) : ∀ u ∈ ([.int .u8 a, .int .u64 b, .int .u64 c] : List Value), u.oneCell' = true := by
 intro u hu
 simp only [List.mem_cons, List.not_mem_nil, or_false] at hu
 rcases hu with rfl | rfl | rfl <;> rfl
theorem cells_three (w : World) (e : TypeId) (a b c : Value) : ∀ (j : Nat) (u : Value), [a, b, c][j]? = some u → (w.alloc (.cells #[a, b, c] e)).cell? ((⟨w.heap.size, 0, none⟩ : Addr).add j) = some u := by
 intro j u hu
 have h1 : (⟨w.heap.size, 0, none⟩ : Addr).add j = ⟨w.heap.size, 0 + j, none⟩ := by unfold Addr.add; split <;> simp_all
 rw [h1, Nat.zero_add, (CB.new w e #[a, b, c]).cell]
 have : j = 0 ∨ j = 1 ∨ j = 2 ∨ 3 ≤ j := by omega
 rcases this with rfl | rfl | rfl | h
 · simpa using hu
 · simpa using hu
 · simpa using hu
 · rw [List.getElem?_eq_none (by simpa using h)] at hu; cases hu
/-- The lines so far, in n words. -/
def lnPad (ws : List (Int × Int)) (n k : Nat) : List Int := starts (ws.take k) ++ List.replicate (n - k) 0
theorem length_lnPad (ws : List (Int × Int)) (n k : Nat) (hw : ws.length = n) (hk : k ≤ n) : (lnPad ws n k).length = n := by simp [lnPad, starts]; omega
theorem lnPad_set (ws : List (Int × Int)) (n k : Nat) (hw : ws.length = n) (hk : k < n) : (lnPad ws n k).set k (startOf (ws[k]'(by omega)).1) = lnPad ws n (k + 1) := by
 have hkl : k < ws.length := by omega
 unfold lnPad starts
 rw [List.take_succ_eq_append_getElem hkl, List.set_append_right _ _ (by simp; omega)]
 obtain ⟨m, hm⟩ : ∃ m, n - k = m + 1 := ⟨n - k - 1, by omega⟩
 have h2 : n - (k + 1) = m := by omega
 have h3 : k - (List.map (fun p => startOf p.1) (List.take k ws)).length = 0 := by simp; omega
 rw [hm, h2, h3, List.replicate_succ, List.set_cons_zero, List.map_append]
 simp [-List.take_append_getElem]
theorem lnPad_all (ws : List (Int × Int)) (n : Nat) (hw : ws.length = n) : lnPad ws n n = starts ws := by
 unfold lnPad
 rw [List.take_of_length_le (by omega), Nat.sub_self]; simp
/-- The first loop's invariant. -/
def StoInv (w : World) (g n : Nat) (ws : List (Int × Int)) (k : Nat) (A : Option Addr) (c : Nat) (wr : World) : Prop :=
 Sl 144 3 wr A k c (pcells (insSt (ws.take k))) ∧ IB .u64 34 wr g (lnPad ws n k) ∧ Below w.heap.size w wr ∧ ∀ b, OwnB A b → w.heap.size ≤ b ∧ b ≠ g
theorem cpt_length (xs : List Int) : ∀ k, (cpt (xs.take k)).length ≤ k := by
 intro k
 induction k with
 | zero => simp [cpt]
 | succ k ih =>
  by_cases hk : k < xs.length
  · rw [List.take_succ_eq_append_getElem hk, cpt_snoc]
    split
    · omega
    · rw [List.length_append]; simp; exact ih
  · rw [List.take_of_length_le (by omega)] at ih ⊢
    omega
theorem cpt_le (xs : List Int) : (cpt xs).length ≤ xs.length := by have := cpt_length xs xs.length; rwa [List.take_length] at this
/-- The second loop's invariant. -/
def StoInv2 (w : World) (g n : Nat) (ws : List (Int × Int)) (zs cs : List Int) (j : Nat) (A : Option Addr) (c : Nat) (wr : World) : Prop :=
 Sl 144 3 wr A (n + j) c (pcells (insSt ws ++ insFl (cs.take j))) ∧ IB .u64 34 wr g zs ∧ Below w.heap.size w wr ∧ ∀ b, OwnB A b → w.heap.size ≤ b ∧ b ≠ g
def StoPost (w : World) (ps : List Ins) (e : Ending) (w' : World) : Prop :=
 ∃ A c, e = .returned (.slice A ps.length c) ∧ Sl 144 3 w' A ps.length c (pcells ps) ∧ Below w.heap.size w w' ∧ ∀ b, OwnB A b → w.heap.size ≤ b

set_option maxRecDepth 100000 in
set_option maxHeartbeats 4000000 in
theorem memStores (w : World) (A : Option Addr) (n c : Nat) (ws : List (Int × Int)) (hn : ws.length = n) (h1 : 1 ≤ n) (hm : n ≤ 12) (hS : Sl 122 2 w A n c (wcells ws)) (hr : ∀ p ∈ ws, 0 ≤ p.1 ∧ p.1 < 18446744073709551616) (hs : (starts ws).Pairwise (· ≤ ·)) :
 Calls Tryz.prog 54 #[.slice A n c] w (StoPost w (storesP ws)) := by
 have HN := Lib.hid hn
 have HS := Lib.hid hS
 have HR := Lib.hid hr
 have HSo := Lib.hid hs
 have e0 : ((n : Int) == 0) = false := by simp; omega
 have hmk : ∀ W : World, (Instr.makeSlice 40 (.int .i64 0) (.int .i64 (n : Int))).run Tryz.prog W = .ok (.slice (some ⟨W.heap.size, 0, none⟩) 0 n) (W.alloc (.cells (ia .u64 (List.replicate n 0)) 34)) := run_make_room 40 34 n Tryz.underlying40 info_u64 (by omega)
 clear hn hS hr hs
 go_enter Tryz.func54, Tryz.ntmps54
 go_wp2
 have HI0 : Hid (StoInv w w.heap.size n ws 0 none 0 (w.alloc (.cells (ia .u64 (List.replicate n 0)) 34))) := by
  refine ⟨Sl.nil, ?_, bl_alloc (Below.refl _ _) _, by simp [OwnB]⟩
  have : lnPad ws n 0 = List.replicate n 0 := by simp [lnPad, starts]
  rw [this]; exact IB.new _ _
 obtain ⟨g, hg⟩ : ∃ g, w.heap.size = g := ⟨_, rfl⟩
 obtain ⟨W, hW⟩ : ∃ W, w.alloc (.cells (ia .u64 (List.replicate n 0)) 34) = W := ⟨_, rfl⟩
 have HI1 : Hid (StoInv w g n ws 0 none 0 W) := by show StoInv _ _ _ _ _ _ _ _; rw [← hg, ← hW]; exact HI0.out
 have hgw : w.heap.size ≤ g := by omega
 rw [hg, hW]
 clear hmk hg hW HI0
 go_loopw [17, 3, 4, 6, 18, 19, 20, 21, 22, 23, 24, 25, 26, 27, 28, 29, 30, 31, 32, 33, 34, 35] (fun i p l _ _ _ _ _ _ _ _ _ _ _ _ _ _ _ _ _ _ _ wr => ∃ (k : Nat) (A' : Option Addr) (c' : Nat), k ≤ n ∧ i = .int .i64 k ∧ p = .slice A' k c' ∧ l = .slice (some ⟨g, 0, none⟩) k n ∧ StoInv w g n ws k A' c' wr) (fun i p l _ _ _ _ _ _ _ _ _ _ _ _ _ _ _ _ _ _ _ _ => n - (intOf i).toNat)
 case atStart => exact ⟨0, none, 0, by omega, rfl, rfl, rfl, HI1.out⟩
 case round =>
  clear HI1
  obtain ⟨k, A', c', hk, rfl, rfl, rfl, hP, hI, hB, hO⟩ := hrel
  have HP := Lib.hid hP
  have HI := Lib.hid hI
  have HB := Lib.hid hB
  have HO := Lib.hid hO
  by_cases hlt : k < n
  · have hkl : k < ws.length := by rw [HN.out]; exact hlt
    obtain ⟨gw, ow, hA, hl, c1, c2⟩ := (HS.out.keep (fun b hb => hB.block b (HS.out.lt hb))).wr hkl
    obtain ⟨⟨of, v⟩, hp⟩ : ∃ p, ws[k] = p := ⟨_, rfl⟩
    have hpp := HR.out _ (List.getElem_mem hkl)
    rw [hp] at c1 c2 hpp
    have HPP := Lib.hid hp
    have hof : 0 ≤ of ∧ of < 18446744073709551616 := hpp
    have HOF := Lib.hid hof
    subst hA
    rw [show 2 * k = k * 2 by omega] at c1 c2
    have hgn : ¬ gw = wr.heap.size := by omega
    have hgr := hI.lt
    clear hP hI hB hO hp hpp hof
    go_wp2_with (at_builtin; refine wpList_append_sl rfl (.tmp 21) (.tmp 27) 124 rfl 144 (.agg #[.int .u8 0, .int .u64 0, .int .u64 0]) 3 24 rfl (by omega) Tryz.underlying124 info_instr (by omega) A' k c' (pcells (insSt (ws.take k))) ⟨wr.heap.size + 1, 0, none⟩ 1 1 [.int .u8 1, .int .u64 of, .int .u64 v] rfl rfl (HP.out.keep (fun b hb => ((bl_alloc (bl_alloc (Below.refl _ _) _) _ : Below wr.heap.size wr _).block b (HP.out.lt hb)))) rfl (by omega) (by have := cells_three (wr.alloc (.cells #[.int .u64 of, .int .u64 v] 122)) 144 (.int .u8 1) (.int .u64 of) (.int .u64 v); simpa using this) (ins_one _ _ _) (by omega) ?_; intro A2 c2' w2 HO2 HC2 HW2 HG2; have hsz : wr.heap.size + 2 ≤ w2.heap.size := (by have := HC2.out.size; simpa using this); have hno : ∀ b, wr.heap.size ≤ b → ¬ OwnB A' b := (fun b hb ho => by have := HP.out.lt ho; omega); have m0 : w2.cell? ⟨wr.heap.size, 0, none⟩ = some (.int .u64 of) := ((HC2.out.cells _ _ (by simp; omega) (hno _ (Nat.le_refl _))).trans (by go_simp)); have HI2 : Hid (IB .u64 34 w2 g (lnPad ws n k)) := (((HI.out.alloc _).alloc _).ch HC2.out (fun ho => (HO.out g ho).2 rfl)); have m1 : wr.heap.size < w2.heap.size := (by omega); clear hno)
    go_wp2_with (first | (go_at_call 72; refine (memStart _ of HOF.out).mono ?_; rintro e w' ⟨rfl, rfl⟩) | (at_builtin; refine wpList_append_ib rfl (.tmp 29) (.tmp 33) 40 rfl 34 Tryz.underlying40 info_u64 g k n ⟨w2.heap.size, 0, none⟩ 1 (startOf of) (lnPad ws n k) rfl rfl (HI2.out.alloc _) hlt (by rw [length_lnPad ws n k HN.out hk]; exact Nat.le_refl _) (by simp [go_sem]) ?_))
    refine ⟨⟨k + 1, A2, c2', by omega, by go_num, rfl, rfl, ?_, ?_, ?_, ?_⟩, by simp [intOf]; omega⟩
    · have hx := HO2.out
      have e1 : pcells (insSt (ws.take (k + 1))) = pcells (insSt (ws.take k)) ++ [.int .u8 1, .int .u64 of, .int .u64 v] := by
       rw [List.take_succ_eq_append_getElem hkl, HPP.out, insSt, List.map_append, pcells_append]; rfl
      rw [e1]
      refine hx.keep (fun b hb => ?_)
      have hbl := hx.lt hb
      have hbg : b ≠ g := by
       rcases HW2.out b hb with h | h
       · exact (HO.out b h).2
       · rw [h]; simp; omega
      rw [Below.heap_setCell _ _ _ _ hbg, Below.heap_alloc _ _ _ hbl]
    · have := (HI2.out.alloc (.cells #[.int .u64 (startOf of)] 34)).set k (startOf of)
      rw [← lnPad_set ws n k HN.out hlt, HPP.out]
      exact this
    · refine bl_set (bl_alloc (bl_ch (bl_alloc (bl_alloc HB.out _) _) HC2.out (fun b hb => (HO.out b hb).1)) _) hgw _
    · intro b hb
      rcases HW2.out b hb with h | h
      · exact HO.out b h
      · have := HB.out.size
        rw [h]; simp; omega
  · obtain rfl : k = n := by omega
    have hI' : IB .u64 34 wr g (starts ws) := by rw [← lnPad_all ws k HN.out]; exact hI
    have hP' : Sl 144 3 wr A' k c' (pcells (insSt ws)) := by rw [List.take_of_length_le (by rw [HN.out]; omega)] at hP; exact hP
    have hsl : (starts ws).length = k := by simp [starts, HN.out]
    have HSRT := Lib.hid (sortU wr (some ⟨g, 0, none⟩) k k (starts ws) hsl h1 hm hI'.rd0 HSo.out)
    have HCPT := Lib.hid (fun m => compactU (wr.drewN m) g k (starts ws) hsl h1 (by omega) (hI'.drewN m))
    have HP' := Lib.hid hP'
    clear hP hI hB hO hI' hP' HP HI hsl
    go_wp2_with (first | (go_at_call 73; refine HSRT.out.mono ?_; rintro e w' ⟨rfl, m, rfl⟩) | (go_at_call 74; refine (HCPT.out m).mono ?_; rintro e w3 ⟨zs, rfl, hZ, hzt, hC3⟩; have HZ := Lib.hid hZ; have HZT := Lib.hid hzt; have HC3 := Lib.hid hC3; clear hZ hzt hC3))
    have HI2 : Hid (StoInv2 w g k ws zs (cpt (starts ws)) 0 A' c' w3) := by
     refine ⟨?_, HZ.out, bl_ch (bl_drewN HB.out m) HC3.out (fun b hb => by rw [show b = g from hb]; exact hgw), HO.out⟩
     have h1 := HP'.out.keep (w' := w3) (fun b hb => HC3.out.block b (HP'.out.lt hb) (fun h => (HO.out b hb).2 h))
     simpa [insFl] using h1
    have hzl : (cpt (starts ws)).length ≤ k := by have := cpt_le (starts ws); simp [starts] at this; rw [HN.out] at this; exact this
    obtain ⟨cs, hcs⟩ : ∃ cs, cpt (starts ws) = cs := ⟨_, rfl⟩
    obtain ⟨q, hq⟩ : ∃ q, cs.length = q := ⟨_, rfl⟩
    have HCS := Lib.hid hcs
    have HQ := Lib.hid hq
    rw [hcs] at HI2 HZT hzl ⊢
    rw [hq] at HZT hzl ⊢
    clear hcs hq HSRT HCPT HZ HC3 HB HO HP'
    go_loopw [41, 3, 8, 42, 43, 44, 45, 46, 47, 48, 49, 50] (fun i p _ _ _ _ _ _ _ _ _ _ wr => ∃ (j : Nat) (A' : Option Addr) (c' : Nat), j ≤ q ∧ i = .int .i64 j ∧ p = .slice A' (k + j) c' ∧ StoInv2 w g k ws zs cs j A' c' wr) (fun i _ _ _ _ _ _ _ _ _ _ _ _ => q - (intOf i).toNat)
    case atStart => exact ⟨0, _, _, by omega, rfl, rfl, HI2.out⟩
    case round =>
     clear HI2
     obtain ⟨j, A1, c1, hj, rfl, rfl, hP, hI, hB, hO⟩ := hrel
     have HP := Lib.hid hP
     have HI := Lib.hid hI
     have HB := Lib.hid hB
     have HO := Lib.hid hO
     have hgr := hI.lt
     by_cases hjq : j < q
     · have hjl : j < cs.length := by rw [HQ.out]; exact hjq
       obtain ⟨l, hl⟩ : ∃ l, cs[j] = l := ⟨_, rfl⟩
       have hzl' : q ≤ zs.length := by have := congrArg List.length HZT.out; rw [List.length_take, HQ.out] at this; omega
       have hzj : zs[j]'(by omega) = l := by
        have h1 : (zs.take q)[j]'(by rw [List.length_take]; omega) = l := by
         have h2 := HZT.out
         simp only [h2]; exact hl
        rwa [List.getElem_take] at h1
       have cj : wr.cell? ⟨g, j, none⟩ = some (.int .u64 l) := by rw [hI.cell (by omega), hzj]
       have HL := Lib.hid hl
       have hjn : j < k := by omega
       clear hP hI hB hO hl hzj
       go_wp2_with (at_builtin; refine wpList_append_sl rfl (.tmp 45) (.tmp 48) 124 rfl 144 (.agg #[.int .u8 0, .int .u64 0, .int .u64 0]) 3 24 rfl (by omega) Tryz.underlying124 info_instr (by omega) A1 (k + j) c1 (pcells (insSt ws ++ insFl (cs.take j))) ⟨wr.heap.size, 0, none⟩ 1 1 [.int .u8 2, .int .u64 l, .int .u64 0] rfl rfl (HP.out.keep (fun b hb => Below.heap_alloc _ _ _ (HP.out.lt hb))) rfl (by omega) (cells_three wr 144 _ _ _) (ins_one _ _ _) (by omega) ?_; intro A2 c2' w2 HO2 HC2 HW2 HG2)
       refine ⟨⟨j + 1, A2, c2', by omega, by go_num, rfl, ?_, ?_, ?_, ?_⟩, by simp [intOf]; omega⟩
       · have e1 : pcells (insSt ws ++ insFl (cs.take (j + 1))) = pcells (insSt ws ++ insFl (cs.take j)) ++ [.int .u8 2, .int .u64 l, .int .u64 0] := by
          rw [List.take_succ_eq_append_getElem hjl, HL.out, insFl, List.map_append, ← List.append_assoc, pcells_append]; rfl
         rw [e1]; exact HO2.out
       · exact (HI.out.alloc _).ch HC2.out (fun ho => (HO.out g ho).2 rfl)
       · exact bl_ch (bl_alloc HB.out _) HC2.out (fun b hb => (HO.out b hb).1)
       · intro b hb
         have := HB.out.size
         rcases HW2.out b hb with h | h
         · exact HO.out b h
         · rw [h]; simp; omega
     · obtain rfl : j = q := by omega
       clear hP hI hB hO
       go_wp2_with (at_builtin; refine wpList_append_sl rfl (.tmp 51) (.tmp 53) 124 rfl 144 (.agg #[.int .u8 0, .int .u64 0, .int .u64 0]) 3 24 rfl (by omega) Tryz.underlying124 info_instr (by omega) A1 (k + j) c1 (pcells (insSt ws ++ insFl (cs.take j))) ⟨wr.heap.size, 0, none⟩ 1 1 [.int .u8 3, .int .u64 0, .int .u64 0] rfl rfl (HP.out.keep (fun b hb => Below.heap_alloc _ _ _ (HP.out.lt hb))) rfl (by omega) (cells_three wr 144 _ _ _) (ins_one _ _ _) (by omega) ?_; intro A2 c2' w2 HO2 HC2 HW2 HG2)
       go_ret
       have hE : storesP ws = insSt ws ++ insFl (cs.take j) ++ [(3, 0, 0)] := by
        rw [storesP, HCS.out, List.take_of_length_le (by rw [HQ.out]; exact Nat.le_refl _)]
       have hlen : (storesP ws).length = k + j + 1 := by
        rw [hE]; simp [insSt, insFl, HN.out, HQ.out]; omega
       refine ⟨A2, c2', ?_, ?_, ?_, ?_⟩
       · rw [hlen]; rfl
       · rw [hlen, hE, pcells_append]; exact HO2.out
       · exact bl_ch (bl_alloc HB.out _) HC2.out (fun b hb => (HO.out b hb).1)
       · intro b hb
         have := HB.out.size
         rcases HW2.out b hb with h | h
         · exact (HO.out b h).1
         · rw [h]; simp; omega
/-- A device of n lines that is on, with those words, all persistent. -/
structure Clean (S : DevS) (n : Nat) (xs : List Int) (N : Nat) : Prop where
 good : Good S N
 nl : S.lns.length = n
 cur : S.cur = xs
 pers : S.pers = xs
 off : S.off = false
 armed : S.armed = false
 hist : ∀ (q : Nat) (l : Ln), S.lns[q]? = some l → l.hist = []
 err : ∀ j, (S.thr j).err = 0
 notes : ∀ j x, (S.thr j).notes x = none
/-- In the middle of a program of stores: those writes are stored, those lines are flushed. -/
structure Mid (S : DevS) (i n : Nat) (xs : List Int) (ws : List (Int × Int)) (ls : List Int) (N : Nat) : Prop where
 good : Good S N
 nl : S.lns.length = n
 cur : S.cur = applyW xs ws
 pers : S.pers = xs
 off : S.off = false
 armed : S.armed = false
 hist : ∀ (q : Nat) (l : Ln), S.lns[q]? = some l → l.hist = ws.filter fun p => decide (p.1 / 64 = (q : Int))
 err : ∀ j, (S.thr j).err = 0
 other : ∀ j, j ≠ i → ∀ x, (S.thr j).notes x = none
 notes : ∀ (q : Nat), (64 * (q : Int) ∈ ls ∧ q < n) ∨ (S.thr i).notes (q : Int) = none
 note : ∀ (q : Nat) (l : Ln), S.lns[q]? = some l → 64 * (q : Int) ∈ ls → (S.thr i).notes (q : Int) = some (l.done + (l.hist.length : Int))

section
variable {S : DevS} {i n N : Nat} {xs : List Int} {ws : List (Int × Int)} {ls : List Int}
theorem Clean.mid (h : Clean S n xs N) (i : Nat) : Mid S i n xs [] [] N :=
 ⟨h.good, h.nl, h.cur, h.pers, h.off, h.armed, fun q l hl => by rw [h.hist q l hl]; rfl, h.err, fun j _ x => h.notes j x, fun q => .inr (h.notes i q), fun q l _ hm => by cases hm⟩
theorem cnt_ok (ho : S.off = false) (ha : S.armed = false) : S.cntB true = true ∧ S.cnt i true = { S with exec := IntKind.u64.wrap (S.exec + 1) } := by
 simp [DevS.cntB, DevS.cnt, DevS.onB, ho, ha]
theorem store_ok (ho : S.off = false) (ha : S.armed = false) {k : Nat} (hk : k < 8 * S.lns.length) (v : Int) : S.store i (8 * (k : Int)) v = ({ S with exec := IntKind.u64.wrap (S.exec + 1) } : DevS).write k v := by
 have hw : S.wordB (8 * (k : Int)) = true := by unfold DevS.wordB; simp; omega
 have hq : ((8 * (k : Int)) / 8).toNat = k := by omega
 unfold DevS.store
 rw [hw, (cnt_ok (i := i) ho ha).1, if_pos rfl, hq, (cnt_ok ho ha).2]
theorem Mid.store (h : Mid S i n xs ws [] N) {k : Nat} (hk : k < 8 * n) (v : Int) : Mid (S.store i (8 * (k : Int)) v) i n xs (ws ++ [(8 * (k : Int), v)]) [] (N + 1) := by
 have hG := h.good.store i (8 * (k : Int)) v (by omega)
 have hE := store_ok (i := i) h.off h.armed (k := k) (by rw [h.nl]; exact hk) v
 rw [hE] at hG ⊢
 refine ⟨hG, by simp [DevS.write, h.nl], ?_, h.pers, h.off, h.armed, ?_, h.err, h.other, fun q => .inr (by have := h.notes q; simp only [List.not_mem_nil, false_and, false_or] at this; exact this), fun q l _ hm => by cases hm⟩
 · rw [applyW_snoc, show ((8 * (k : Int)) / 8).toNat = k by omega]
   show S.cur.set k v = _
   rw [h.cur]
 · intro q l hl
   have hlt : q < S.lns.length := by
    have := (List.getElem?_eq_some_iff.1 hl).1
    simpa [DevS.write] using this
   have h0 := h.hist q S.lns[q] (by simp [hlt])
   simp only [DevS.write, List.getElem?_modify, List.getElem?_eq_getElem hlt] at hl
   rw [List.filter_append]
   by_cases hq : k / 8 = q
   · simp [hq] at hl
     subst hl
     have : (8 * (k : Int)) / 64 = (q : Int) := by omega
     simp [h0, this]
   · simp [hq] at hl
     subst hl
     have : ¬ (8 * (k : Int)) / 64 = (q : Int) := by omega
     simp [h0, this]
theorem Mid.flush (h : Mid S i n xs ws ls N) {q : Nat} (hq : q < n) (hN : N < 1000000) : Mid (S.flush i (64 * (q : Int))) i n xs ws (ls ++ [64 * (q : Int)]) (N + 1) := by
 have hG := h.good.flush i (64 * (q : Int)) (by omega) (by omega)
 have hin : S.inB (64 * (q : Int)) = true := by unfold DevS.inB; simp [h.nl]; omega
 have hE : S.flush i (64 * (q : Int)) = ({ S with exec := IntKind.u64.wrap (S.exec + 1) } : DevS).note i q := by
  unfold DevS.flush
  rw [hin, (cnt_ok (i := i) h.off h.armed).1, if_pos rfl, (cnt_ok h.off h.armed).2, show ((64 * (q : Int)) / 64).toNat = q by omega]
 rw [hE] at hG ⊢
 have hql : q < S.lns.length := by rw [h.nl]; exact hq
 obtain ⟨a1, a2, _⟩ := h.good.ln q S.lns[q] (by simp [hql])
 have hw : IntKind.u64.wrap (S.lns[q].done + (S.lns[q].hist.length : Int)) = S.lns[q].done + (S.lns[q].hist.length : Int) := IntWalk.u64_in _ (by omega)
 refine ⟨hG, h.nl, h.cur, h.pers, h.off, h.armed, h.hist, fun j => ?_, fun j hj x => ?_, fun r => ?_, fun r l hl hm => ?_⟩
 · by_cases hj : j = i
   · subst hj; simp [DevS.note, h.err]
   · simp [DevS.note, hj, h.err]
 · simp [DevS.note, hj, h.other j hj x]
 · by_cases hr : r = q
   · subst hr; left; exact ⟨by simp, hq⟩
   · have hr' : ¬ (r : Int) = (q : Int) := by omega
     rcases h.notes r with h1 | h1
     · left; exact ⟨by simp [h1.1], h1.2⟩
     · right; simp [DevS.note, hr', h1]
 · have hl1 : S.lns[r]? = some l := hl
   by_cases hr : r = q
   · subst hr
     have : S.lns[r] = l := by rw [List.getElem?_eq_getElem hql] at hl1; injection hl1
     subst this
     simp [DevS.note, hql, hw]
   · have hr' : ¬ (r : Int) = (q : Int) := by omega
     simp only [List.mem_append, List.mem_singleton] at hm
     rcases hm with hm | hm
     · simp [DevS.note, hr', h.note r l hl1 hm]
     · exfalso; omega
theorem applyW_filter (j : Nat) : ∀ (ws : List (Int × Int)) (xs : List Int), (∀ p ∈ ws, 0 ≤ p.1) → (applyW xs (ws.filter fun p => decide (p.1 / 64 = ((j / 8 : Nat) : Int))))[j]? = (applyW xs ws)[j]? := by
 intro ws
 induction ws with
 | nil => intro xs _; rfl
 | cons p ws ih =>
  intro xs hp
  have hp0 := hp p (by simp)
  have ih' := fun xs => ih xs (fun q hq => hp q (by simp [hq]))
  by_cases hd : p.1 / 64 = ((j / 8 : Nat) : Int)
  · rw [List.filter_cons_of_pos (by simpa using hd)]
    exact ih' _
  · rw [List.filter_cons_of_neg (by simpa using hd), ih' xs]
    show _ = (applyW (xs.set (p.1 / 8).toNat p.2) ws)[j]?
    refine applyW_congr _ j _ _ (by simp) ?_
    rw [List.getElem?_set, if_neg (by omega)]
theorem Mid.fence (h : Mid S i n xs ws ls N) (hi : i < 8) (hN : N < 1000000) (hw : ∀ p ∈ ws, 0 ≤ p.1 ∧ startOf p.1 ∈ ls) : Clean (S.fence i) n (applyW xs ws) (N + 1) := by
 have hG := (h.good.fence hi (by omega)).mono (Nat.le_succ N)
 obtain ⟨c1, c2⟩ := cnt_ok (i := i) h.off h.armed
 have hE : S.fence i = ((({ S with exec := IntKind.u64.wrap (S.exec + 1) } : DevS).upto (({ S with exec := IntKind.u64.wrap (S.exec + 1) } : DevS).due i))).clearN i := by
  unfold DevS.fence; rw [c1, if_pos rfl, c2]
 rw [hE] at hG ⊢
 obtain ⟨T, hT⟩ : ∃ T : DevS, T = { S with exec := IntKind.u64.wrap (S.exec + 1) } := ⟨_, rfl⟩
 have hTl : T.lns = S.lns := by rw [hT]
 have hTt : T.thr = S.thr := by rw [hT]
 have hTp : T.pers = xs := by rw [hT]; exact h.pers
 have hTc : T.cur = applyW xs ws := by rw [hT]; exact h.cur
 rw [← hT] at hG ⊢
 have hdue : ∀ (q : Nat) (l : Ln), S.lns[q]? = some l → T.due i q = l.hist.length := by
  intro q l hl
  obtain ⟨a1, a2, _⟩ := h.good.ln q l hl
  unfold DevS.due
  rw [hTt, hTl, hl]
  rcases h.notes q with hm | hm
  · rw [h.note q l hl hm.1]; simp; omega
  · rw [hm]
    have : l.hist = [] := by
     rw [h.hist q l hl, List.filter_eq_nil_iff]
     intro p hp hd
     have hd' : p.1 / 64 = (q : Int) := by simpa using hd
     have hs := (hw p hp).2
     unfold startOf at hs
     have : p.1 - p.1 % 64 = 64 * (q : Int) := by omega
     rw [this] at hs
     rw [h.note q l hl hs] at hm
     cases hm
    rw [this]; rfl
 have hlen : (T.upto (T.due i)).pers.length = xs.length := by rw [(length_upto _).1, hTp]
 refine ⟨hG, ?_, hTc, ?_, by rw [hT]; exact h.off, by rw [hT]; exact h.armed, ?_, fun j => ?_, fun j x => ?_⟩
 · show (T.upto (T.due i)).lns.length = n
   rw [(length_upto _).2, hTl]; exact h.nl
 · show (T.upto (T.due i)).pers = _
   apply List.ext_getElem?
   intro j
   by_cases hj : j < xs.length
   · rw [upto_pers _ j (by rw [hTp]; exact hj), hTp, hTl]
     have hjl : j / 8 < S.lns.length := by
      have := h.good.np
      rw [h.pers] at this
      omega
     obtain ⟨l, hl⟩ : ∃ l, S.lns[j / 8]? = some l := ⟨_, List.getElem?_eq_getElem hjl⟩
     rw [hl, hdue _ l hl]
     simp only [Option.map_some, Option.getD_some, List.take_length]
     rw [h.hist _ l hl]
     exact applyW_filter j ws xs (fun p hp => (hw p hp).1)
   · rw [List.getElem?_eq_none (by rw [hlen]; omega), List.getElem?_eq_none (by rw [length_applyW]; omega)]
 · intro q l hl
   have hl : (T.upto (T.due i)).lns[q]? = some l := hl
   rw [upto_ln, hTl] at hl
   obtain ⟨l0, h0, rfl⟩ := Option.map_eq_some_iff.1 hl
   simp [hdue q l0 h0]
 · show (((T.upto (T.due i)).clearN i).thr j).err = 0
   have e1 : ((T.upto (T.due i)).thr) = S.thr := hTt
   by_cases hj : j = i
   · subst hj; simp [DevS.clearN, e1, h.err]
   · simp [DevS.clearN, hj, e1, h.err]
 · show (((T.upto (T.due i)).clearN i).thr j).notes x = none
   have e1 : ((T.upto (T.due i)).thr) = S.thr := hTt
   by_cases hj : j = i
   · subst hj; simp [DevS.clearN]
   · simp [DevS.clearN, hj, e1, h.other j hj x]

theorem Mid.stores (hi : i < 8) : ∀ (vs : List (Int × Int)) {S : DevS} {ws : List (Int × Int)} {N : Nat}, Mid S i n xs ws [] N → (∀ p ∈ vs, ∃ k : Nat, p.1 = 8 * (k : Int) ∧ k < 8 * n) → Mid (S.runP i (insSt vs)) i n xs (ws ++ vs) [] (N + vs.length) := by
 intro vs
 induction vs with
 | nil => intro S ws N h _; simpa [insSt, DevS.runP] using h
 | cons p vs ih =>
  intro S ws N h hp
  obtain ⟨k, hk1, hk2⟩ := hp p (by simp)
  have h1 := h.store hk2 p.2
  have h2 := ih h1 (fun q hq => hp q (by simp [hq]))
  have e : (8 * (k : Int), p.2) = p := by rw [← hk1]
  rw [e, ← hk1] at h2
  simp only [List.append_assoc, List.singleton_append] at h2
  simp only [List.length_cons]
  rw [show N + (vs.length + 1) = N + 1 + vs.length by omega]
  exact h2
theorem Mid.flushes (hi : i < 8) : ∀ (ks : List Int) {S : DevS} {ls : List Int} {N : Nat}, Mid S i n xs ws ls N → N + ks.length < 1000000 → (∀ l ∈ ks, ∃ q : Nat, l = 64 * (q : Int) ∧ q < n) → Mid (S.runP i (insFl ks)) i n xs ws (ls ++ ks) (N + ks.length) := by
 intro ks
 induction ks with
 | nil => intro S ls N h _ _; simpa [insFl, DevS.runP] using h
 | cons l ks ih =>
  intro S ls N h hN hp
  simp only [List.length_cons] at hN ⊢
  obtain ⟨q, rfl, hq⟩ := hp l (by simp)
  have h1 := h.flush hq (by omega)
  have h2 := ih h1 (by omega) (fun q hq => hp q (by simp [hq]))
  simp only [List.append_assoc, List.singleton_append] at h2
  rw [show N + (ks.length + 1) = N + 1 + ks.length by omega]
  exact h2
theorem mem_cpt (ys : List Int) : ∀ k, ∀ x, x ∈ cpt (ys.take k) ↔ x ∈ ys.take k := by
 intro k
 induction k with
 | zero => intro x; simp [cpt]
 | succ k ih =>
  intro x
  by_cases hk : k < ys.length
  · rw [List.take_succ_eq_append_getElem hk, cpt_snoc]
    split
    · rename_i hl
      rw [List.mem_append, ih x]
      constructor
      · exact fun h => .inl h
      · rintro (h | h)
        · exact h
        · simp at h
          subst h
          exact (ih _).1 (List.mem_of_getLast? hl)
    · rw [List.mem_append, List.mem_append, ih x]
  · rw [List.take_of_length_le (by omega)]
    have := ih x
    rwa [List.take_of_length_le (by omega)] at this
theorem mem_cpt' (ys : List Int) (x : Int) : x ∈ cpt ys ↔ x ∈ ys := by have := mem_cpt ys ys.length x; rwa [List.take_length] at this
theorem runP_append (S : DevS) (i : Nat) (ps qs : List Ins) : S.runP i (ps ++ qs) = (S.runP i ps).runP i qs := by simp [DevS.runP]
/-- The program of Stores makes the writes persistent. -/
theorem Clean.stores (h : Clean S n xs N) (hi : i < 8) (vs : List (Int × Int)) (hv : ∀ p ∈ vs, ∃ k : Nat, p.1 = 8 * (k : Int) ∧ k < 8 * n) (hN : N + (storesP vs).length < 1000000) : Clean (S.runP i (storesP vs)) n (applyW xs vs) (N + (storesP vs).length) := by
 have hl : (storesP vs).length = vs.length + (cpt (starts vs)).length + 1 := by simp [storesP, insSt, insFl]; omega
 rw [hl] at hN ⊢
 have h1 := Mid.stores hi vs (h.mid i) hv
 rw [List.nil_append] at h1
 have h2 := Mid.flushes hi (cpt (starts vs)) h1 (by omega) (fun l hl => by
  rw [mem_cpt'] at hl
  obtain ⟨p, hp, rfl⟩ := List.mem_map.1 hl
  obtain ⟨k, hk1, hk2⟩ := hv p hp
  refine ⟨k / 8, ?_, by omega⟩
  unfold startOf; omega)
 rw [List.nil_append] at h2
 have h3 := h2.fence hi (by omega) (fun p hp => by
  obtain ⟨k, hk1, hk2⟩ := hv p hp
  exact ⟨by omega, by rw [mem_cpt']; exact List.mem_map.2 ⟨p, hp, rfl⟩⟩)
 unfold storesP
 rw [runP_append, runP_append]
 rw [show N + (vs.length + (cpt (starts vs)).length + 1) = N + vs.length + (cpt (starts vs)).length + 1 by omega]
 exact h3
end
set_option linter.unusedSimpArgs false
/-- Words sorted by the plain functions of lists. -/
def srtL (xs : List Int) : List Int := xs.mergeSort fun x y => decide (x ≤ y)
theorem srtL_perm (xs : List Int) : (srtL xs).Perm xs := List.mergeSort_perm _ _
theorem srtL_of (xs : List Int) (h : xs.Pairwise (· ≤ ·)) : srtL xs = xs := List.mergeSort_of_pairwise (by simpa using h)
theorem srtL_length (xs : List Int) : (srtL xs).length = xs.length := (srtL_perm xs).length_eq
theorem mem_srtL {xs : List Int} {x : Int} : x ∈ srtL xs ↔ x ∈ xs := (srtL_perm xs).mem_iff
/-- The program of Stores. -/
def storesX (ws : List (Int × Int)) : List Ins := insSt ws ++ insFl (cpt (srtL (starts ws))) ++ [(3, 0, 0)]
theorem storesX_of (ws : List (Int × Int)) (h : (starts ws).Pairwise (· ≤ ·)) : storesX ws = storesP ws := by unfold storesX storesP; rw [srtL_of _ h]
section
variable {ws : List (Int × Int)} {n : Nat}
theorem storesX_lt {j : Nat} (hj : j < ws.length) : (storesX ws).getD j (0, 0, 0) = (1, (ws.getD j (0, 0)).1, (ws.getD j (0, 0)).2) := by
 unfold storesX
 rw [List.append_assoc, List.getD_eq_getElem?_getD, List.getElem?_append_left (by simpa [insSt] using hj)]
 simp [insSt, hj]
theorem storesX_ge {j : Nat} (hj : ws.length ≤ j) : ((storesX ws).getD j (0, 0, 0)).1 ≠ 1 := by
 unfold storesX
 rw [List.append_assoc, List.getD_eq_getElem?_getD, List.getElem?_append_right (by simpa [insSt] using hj)]
 generalize j - (insSt ws).length = q
 rw [List.getElem?_append]
 split
 · rename_i hq
   rw [List.getElem?_eq_getElem hq]
   simp [insFl]
 · generalize q - (insFl (cpt (srtL (starts ws)))).length = r
   cases r with
   | zero => simp
   | succ r => simp
theorem length_storesX : (storesX ws).length = ws.length + (cpt (srtL (starts ws))).length + 1 := by simp [storesX, insSt, insFl]; omega
end
section
variable {F : Nat → Prop} {d : Nat} {t : Nat → Nat} {w : World} {S : DevS} {N : Nat}
theorem vLoad (h : DV F d t w S) (i : Nat) (hi : i < 8) (hO : S.off = false) (k : Nat) (v : Int) (hk : S.cur[k]? = some v) :
 Calls Tryz.prog 61 #[.pointer (some ⟨t i, 0, none⟩), .int .u64 (8 * (k : Int))] w fun e w' => e = .returned (.int .u64 v) ∧ w = w' := by
 obtain ⟨_, L, rfl, h3, _⟩ := h
 obtain ⟨hl, hv⟩ := List.getElem?_eq_some_iff.1 hk
 have := thLoad_ok w d L S h3 i hi hO k hl
 rwa [hv] at this
theorem vErr (h : DV F d t w S) (i : Nat) (hi : i < 8) : Calls Tryz.prog 62 #[.pointer (some ⟨t i, 0, none⟩)] w fun e w' => e = .returned (.int .i64 (S.thr i).err) ∧ w = w' := by
 obtain ⟨_, L, rfl, h3, _⟩ := h
 exact thErr w d L S h3 i hi
theorem vSize (h : DV F d t w S) (i : Nat) (hi : i < 8) : Calls Tryz.prog 182 #[.pointer (some ⟨t i, 0, none⟩)] w fun e w' => e = .returned (.int .u64 ((S.lns.length : Int) * 64)) ∧ w = w' := by
 obtain ⟨_, L, rfl, h3, _⟩ := h
 exact thSize w d L S h3 i hi
theorem vThread (h : DV F d t w S) (i : Nat) (hi : i < 8) : Calls Tryz.prog 35 #[.pointer (some ⟨d, 0, none⟩), .int .i64 (i : Int)] w fun e w' => e = .returned (.pointer (some ⟨t i, 0, none⟩)) ∧ w = w' := by
 obtain ⟨_, L, rfl, h3, _⟩ := h
 exact devThread w d L S h3 i hi
end
/-- A device of n lines that is on, with those words. -/
structure On (S : DevS) (n : Nat) (xs : List Int) (N : Nat) : Prop where
 good : Good S N
 nl : S.lns.length = n
 cur : S.cur = xs
 off : S.off = false
 armed : S.armed = false
 err : ∀ j, (S.thr j).err = 0
theorem new_on (xs : List Int) (n : Nat) (hx : xs.length = 8 * n) : On (newS xs n) n xs 0 := by
 refine ⟨⟨by simpa [newS] using hx, by simpa [newS] using hx, fun q l hl => ?_, fun i hi => ⟨Nat.le_refl _, fun x c hc => by simp [newS] at hc⟩⟩, by simp [newS], rfl, rfl, rfl, fun _ => rfl⟩
 simp only [newS, List.getElem?_replicate] at hl
 split at hl
 · injection hl with hl; subst hl; simp
 · cases hl
theorem On.length {S : DevS} {n : Nat} {xs : List Int} {N : Nat} (h : On S n xs N) : xs.length = 8 * n := by rw [← h.cur, h.good.nc, h.nl]
theorem On.mono {S : DevS} {n : Nat} {xs : List Int} {N M : Nat} (h : On S n xs N) (hM : N ≤ M) : On S n xs M := ⟨h.good.mono hM, h.nl, h.cur, h.off, h.armed, h.err⟩
theorem On.store {S : DevS} {n : Nat} {xs : List Int} {N : Nat} (h : On S n xs N) (i k : Nat) (hk : k < 8 * n) (v : Int) : On (S.store i (8 * (k : Int)) v) n (xs.set k v) (N + 1) := by
 have hG := h.good.store i (8 * (k : Int)) v (by omega)
 have hw : S.wordB (8 * (k : Int)) = true := by unfold DevS.wordB; simp [h.nl]; omega
 have hq : ((8 * (k : Int)) / 8).toNat = k := by omega
 have hE : S.store i (8 * (k : Int)) v = ({ S with exec := IntKind.u64.wrap (S.exec + 1) } : DevS).write k v := by
  unfold DevS.store
  rw [hw, hq]
  simp [DevS.cntB, DevS.cnt, DevS.onB, h.off, h.armed]
 rw [hE] at hG ⊢
 exact ⟨hG, by simp [DevS.write, h.nl], by show S.cur.set k v = _; rw [h.cur], h.off, h.armed, h.err⟩
/-- What a thread loads. -/
def LdV (T : Nat) (xs : List Int) (w : World) : Prop := ∀ W, Below w.heap.size w W → ∀ (k : Nat) (v : Int), xs[k]? = some v → Calls Tryz.prog 61 #[.pointer (some ⟨T, 0, none⟩), .int .u64 (8 * (k : Int))] W fun e w' => e = .returned (.int .u64 v) ∧ W = w'
theorem LdV.below {T : Nat} {xs : List Int} {w w' : World} (h : LdV T xs w) (hb : Below w.heap.size w w') : LdV T xs w' := fun W hW => h W (hb.trans (hW.mono hb.size))
def gt0 (xs : List Int) (k : Nat) : Int := xs.getD k 0
def swL (xs : List Int) (i j : Nat) : List Int := (xs.set i (gt0 xs j)).set j (gt0 xs i)
theorem gt0_eq {xs : List Int} {k : Nat} (h : k < xs.length) : gt0 xs k = xs[k] := by simp [gt0, h]
theorem length_swL (xs : List Int) (i j : Nat) : (swL xs i j).length = xs.length := by simp [swL]
theorem gt0_swL {xs : List Int} {i j : Nat} (hi : i < xs.length) (hj : j < xs.length) (k : Nat) : gt0 (swL xs i j) k = if k = j then gt0 xs i else if k = i then gt0 xs j else gt0 xs k := by
 unfold swL
 by_cases hk : k = j
 · subst hk; simp [gt0, hj]
 · by_cases hk2 : k = i
   · subst hk2; simp [gt0, hi, hk, show ¬ j = k from fun h => hk h.symm]
   · simp [gt0, hk, hk2, show ¬ j = k from fun h => hk h.symm, show ¬ i = k from fun h => hk2 h.symm]
theorem swL_perm {xs : List Int} {i j : Nat} (hi : i < xs.length) (hj : j < xs.length) : (swL xs i j).Perm xs := by
 have h := Array.swap_perm (xs := xs.toArray) (i := i) (j := j) (by simpa using hi) (by simpa using hj)
 have e : (xs.toArray.swap i j (by simpa using hi) (by simpa using hj)).toList = swL xs i j := by
  simp [swL, gt0_eq hi, gt0_eq hj]
 rw [← e]
 exact h.toList
/-- The same words, in another order between a and b. -/
structure PO (a b : Nat) (xs ys : List Int) : Prop where
 len : ys.length = xs.length
 perm : ys.Perm xs
 out : ∀ k, k < a ∨ b ≤ k → gt0 ys k = gt0 xs k
theorem PO.refl (a b : Nat) (xs : List Int) : PO a b xs xs := ⟨rfl, List.Perm.refl _, fun _ _ => rfl⟩
theorem PO.trans {a b : Nat} {xs ys zs : List Int} (h : PO a b xs ys) (h2 : PO a b ys zs) : PO a b xs zs := ⟨h2.len.trans h.len, h2.perm.trans h.perm, fun k hk => (h2.out k hk).trans (h.out k hk)⟩
theorem PO.mono {a b c d : Nat} {xs ys : List Int} (h : PO a b xs ys) (h1 : c ≤ a) (h2 : b ≤ d) : PO c d xs ys := ⟨h.len, h.perm, fun k hk => h.out k (by omega)⟩
theorem PO.swap {a b : Nat} {xs ys : List Int} (h : PO a b xs ys) {i j : Nat} (hi : a ≤ i ∧ i < b) (hj : a ≤ j ∧ j < b) (hb : b ≤ xs.length) : PO a b xs (swL ys i j) := by
 have hl := h.len
 refine ⟨(length_swL _ _ _).trans hl, (swL_perm (by omega) (by omega)).trans h.perm, fun k hk => ?_⟩
 rw [gt0_swL (by omega) (by omega), if_neg (by omega), if_neg (by omega)]
 exact h.out k hk
def SortedOn (a b : Nat) (ys : List Int) : Prop := ∀ p q, a ≤ p → p < q → q < b → gt0 ys p ≤ gt0 ys q
/-- Sorted but for the word at j, which may be too far right. -/
def Hole (a i j : Nat) (ys : List Int) : Prop := ∀ p q, a ≤ p → p < q → q ≤ i → q ≠ j → gt0 ys p ≤ gt0 ys q
theorem Hole.start {a i : Nat} {ys : List Int} (h : SortedOn a i ys) : Hole a i i ys := fun p q h1 h2 h3 h4 => h p q h1 h2 (by omega)
theorem Hole.swap {a i j : Nat} {ys : List Int} (h : Hole a i (j + 1) ys) (hj : a ≤ j) (hi : j + 1 ≤ i) (hl : i < ys.length) (hlt : gt0 ys (j + 1) < gt0 ys j) : Hole a i j (swL ys (j + 1) j) := by
 intro p q h1 h2 h3 h4
 have e : ∀ k, gt0 (swL ys (j + 1) j) k = if k = j then gt0 ys (j + 1) else if k = j + 1 then gt0 ys j else gt0 ys k := fun k => gt0_swL (by omega) (by omega) k
 by_cases hq1 : q = j + 1
 · subst hq1
   have eq : gt0 (swL ys (j + 1) j) (j + 1) = gt0 ys j := by rw [e, if_neg (by omega), if_pos rfl]
   rw [eq]
   by_cases hp : p = j
   · rw [hp, e, if_pos rfl]; omega
   · rw [e, if_neg hp, if_neg (by omega)]
     exact h p j h1 (by omega) (by omega) (by omega)
 · have eq : gt0 (swL ys (j + 1) j) q = gt0 ys q := by rw [e, if_neg h4, if_neg hq1]
   rw [eq]
   by_cases hp : p = j
   · rw [hp, e, if_pos rfl]; exact h (j + 1) q (by omega) (by omega) h3 hq1
   · by_cases hp2 : p = j + 1
     · rw [hp2, e, if_neg (by omega), if_pos rfl]; exact h j q (by omega) (by omega) h3 hq1
     · rw [e, if_neg hp, if_neg hp2]; exact h p q h1 h2 h3 hq1
theorem Hole.done {a i j : Nat} {ys : List Int} (h : Hole a i j ys) (hj : a ≤ j ∧ j ≤ i) (hd : j = a ∨ gt0 ys (j - 1) ≤ gt0 ys j) : SortedOn a (i + 1) ys := by
 intro p q h1 h2 h3
 by_cases hq : q = j
 · subst hq
   rcases hd with hd | hd
   · omega
   · by_cases hp : p = q - 1
     · rw [hp]; exact hd
     · have := h p (q - 1) h1 (by omega) (by omega) (by omega)
       omega
 · exact h p q h1 h2 (by omega) hq
section
variable {S : DevS} {n N : Nat} {xs : List Int}
theorem On.ctr (h : On S n xs N) (ex : Int) : On ({ S with exec := ex } : DevS) n xs N := ⟨h.good.ctr S.off S.armed S.left ex, h.nl, h.cur, h.off, h.armed, h.err⟩
theorem On.cnt (h : On S n xs N) (i : Nat) : S.cntB true = true ∧ S.cnt i true = { S with exec := IntKind.u64.wrap (S.exec + 1) } := cnt_ok h.off h.armed
theorem On.flush (h : On S n xs N) (i k : Nat) (hk : k < 8 * n) (hN : N < 1000000) : On (S.flush i (8 * (k : Int))) n xs (N + 1) := by
 have hG := h.good.flush i (8 * (k : Int)) (by omega) (by omega)
 have hin : S.inB (8 * (k : Int)) = true := by unfold DevS.inB; simp [h.nl]; omega
 obtain ⟨c1, c2⟩ := h.cnt i
 have hE : S.flush i (8 * (k : Int)) = ({ S with exec := IntKind.u64.wrap (S.exec + 1) } : DevS).note i ((8 * (k : Int)) / 64).toNat := by
  unfold DevS.flush
  rw [hin, c1, if_pos rfl, c2]
 rw [hE] at hG ⊢
 refine ⟨hG, h.nl, h.cur, h.off, h.armed, fun j => ?_⟩
 by_cases hj : j = i
 · subst hj; simp [DevS.note, h.err]
 · simp [DevS.note, hj, h.err]
theorem On.fence (h : On S n xs N) (i : Nat) (hi : i < 8) (hN : N < 1000000) : On (S.fence i) n xs (N + 1) := by
 have hG := (h.good.fence hi (by omega)).mono (Nat.le_succ N)
 obtain ⟨c1, c2⟩ := h.cnt i
 have hE : S.fence i = ((({ S with exec := IntKind.u64.wrap (S.exec + 1) } : DevS).upto (({ S with exec := IntKind.u64.wrap (S.exec + 1) } : DevS).due i))).clearN i := by
  unfold DevS.fence; rw [c1, if_pos rfl, c2]
 rw [hE] at hG ⊢
 refine ⟨hG, ?_, h.cur, h.off, h.armed, fun j => ?_⟩
 · show (DevS.upto _ _).lns.length = n
   rw [(length_upto _).2]; exact h.nl
 · by_cases hj : j = i
   · subst hj; simp [DevS.clearN, DevS.upto, h.err]
   · simp [DevS.clearN, hj, DevS.upto, h.err]
/-- A valid instruction of a device of n lines. -/
def vIns (n : Nat) (p : Ins) : Prop := insB p = true ∧ ∃ k : Nat, k < 8 * n ∧ p.2.1 = 8 * (k : Int)
/-- The words after an instruction. -/
def insX (xs : List Int) (p : Ins) : List Int := if p.1 = 1 then xs.set (p.2.1 / 8).toNat p.2.2 else xs
theorem On.ins (h : On S n xs N) (i : Nat) (hi : i < 8) (hN : N < 1000000) {p : Ins} (hp : vIns n p) : On (S.exec1 i p) n (insX xs p) (N + 1) := by
 obtain ⟨op, of, v⟩ := p
 obtain ⟨h1, k, hk, hof⟩ := hp
 dsimp only at hof
 subst hof
 unfold DevS.exec1 insX
 dsimp only
 split
 · rw [show (8 * (k : Int) / 8).toNat = k by omega]; exact h.store i k hk v
 · split
   · exact h.flush i k hk hN
   · exact h.fence i hi hN
end
section
variable {ws : List (Int × Int)} {n : Nat}
theorem length_storesP : (storesP ws).length = ws.length + (cpt (starts ws)).length + 1 := by simp [storesP, insSt, insFl]; omega
theorem vIns.num {p : Ins} (h : vIns n p) (hn : n ≤ 1000000) : (0 ≤ p.2.1 ∧ p.2.1 < 18446744073709551616) ∧ 1 ≤ p.1 ∧ p.1 ≤ 3 := by
 obtain ⟨h1, k, hk, he⟩ := h
 simp only [insB, Bool.and_eq_true, decide_eq_true_iff] at h1
 exact ⟨by omega, h1⟩
end
section
variable {ws : List (Int × Int)} {n : Nat}
theorem storesX_v (hw : ∀ p ∈ ws, ∃ k : Nat, k < 8 * n ∧ p.1 = 8 * (k : Int)) (h0 : 0 < n) : ∀ q ∈ storesX ws, vIns n q := by
 intro q hq
 unfold storesX at hq
 rw [List.mem_append, List.mem_append] at hq
 rcases hq with (hq | hq) | hq
 · simp only [insSt, List.mem_map] at hq
   obtain ⟨p, hp, rfl⟩ := hq
   obtain ⟨k, hk, he⟩ := hw p hp
   exact ⟨by simp [insB], k, hk, he⟩
 · simp only [insFl, List.mem_map] at hq
   obtain ⟨l, hl, rfl⟩ := hq
   rw [mem_cpt', mem_srtL] at hl
   simp only [starts, List.mem_map] at hl
   obtain ⟨p, hp, rfl⟩ := hl
   obtain ⟨k, hk, he⟩ := hw p hp
   refine ⟨by simp [insB], k / 8 * 8, by omega, ?_⟩
   show startOf p.1 = _
   rw [he]
   unfold startOf
   omega
 · simp only [List.mem_singleton] at hq
   subst hq
   exact ⟨by simp [insB], 0, by omega, by simp⟩
end
theorem info_u8d : (Tryz.prog.info? 5).map (fun i => (i.zero, i.size, i.bytes)) = some (some (.int .u8 0), 1, 1) := by kernel_rfl
set_option maxRecDepth 100000 in
set_option maxHeartbeats 2000000 in
theorem bytesOfD (w : World) (A : Option Addr) (n c : Nat) (ws : List Int) (hn : ws.length = n) (hb : n ≤ 32768) (hf : Fits ws) (hR : Rd .u64 w A ws) :
 Calls Tryz.prog 100 #[.slice A n c] w fun e w' => ∃ g, e = .returned (.slice (some ⟨g, 0, none⟩) (8 * n) (8 * n)) ∧ IB .u8 5 w' g (bytesL ws) ∧ w.heap.size ≤ g ∧ Below w.heap.size w w' := by
 have HR := Lib.hid hR
 have HN := Lib.hid hn
 have HF := Lib.hid hf
 have hmk := fun W => run_make_z (P := Tryz.prog) 75 5 .u8 .i64 .i64 ((n : Int) * 8) (8 * n) (by omega) Tryz.underlying75 1 info_u8d (by omega) (by omega) W
 clear hR hn hf
 go_enter Tryz.func100, Tryz.ntmps100
 go_wp2
 have HI0 : Hid (IB .u8 5 (w.alloc (.cells (ia .u8 (List.replicate (8 * n) (0 : Int))) 5)) w.heap.size (byPad ws 0)) := by
  show IB _ _ _ _ _
  rw [byPad_zero, HN.out]; exact IB.new _ _
 have HB0 : Hid (Below w.heap.size w (w.alloc (.cells (ia .u8 (List.replicate (8 * n) (0 : Int))) 5))) := by show Below _ _ _; (repeat (first | with_reducible (first | exact Below.refl _ _ | refine bl_alloc ?_ _ | refine bl_drew ?_ | refine bl_drewN ?_ _ | refine bl_bx ?_ _ | exact BX.below _ | refine bl_set ?_ (by first | (exact Nat.le_refl _) | (simp; done) | (simp; omega)) _) | assumption))
 obtain ⟨g, hg⟩ : ∃ g, w.heap.size = g := ⟨_, rfl⟩
 obtain ⟨W, hW⟩ : ∃ W, w.alloc (.cells (ia .u8 (List.replicate (8 * n) (0 : Int))) 5) = W := ⟨_, rfl⟩
 rw [hg, hW] at HI0
 rw [hW] at HB0
 rw [hg, hW]
 have HG := Lib.hid hg
 clear hW hg hmk
 go_loopw [11, 4, 12, 13, 14, 15, 16, 17, 18, 19, 20, 21, 22, 23, 24, 25, 26, 27, 28] (fun i _ _ _ _ _ _ _ _ _ _ _ _ _ _ _ _ _ _ wr => ∃ k : Nat, k ≤ 8 * n ∧ i = .int .i64 k ∧ IB .u8 5 wr g (byPad ws k) ∧ Below w.heap.size w wr) (fun i _ _ _ _ _ _ _ _ _ _ _ _ _ _ _ _ _ _ _ => 8 * n - (intOf i).toNat)
 case atStart => exact ⟨0, by omega, rfl, HI0.out, HB0.out⟩
 case round =>
  clear HI0 HB0
  obtain ⟨k, hk, rfl, hI, hB⟩ := hrel
  by_cases hlt : k < 8 * n
  · have hlt' : (k : Int) < 8 * (n : Int) := by omega
    have hk8 : k / 8 < ws.length := by rw [HN.out]; omega
    have hkn : k / 8 < n := by omega
    obtain ⟨b, o, rfl, hbb, hc⟩ := HR.out.at_ hk8
    have hbw := hB.size
    have hc' : wr.cell? ⟨b, o + k / 8, none⟩ = some (.int .u64 ws[k / 8]) := (hB.cell (p := ⟨b, o + k / 8, none⟩) hbb).trans hc
    have hbl : b < wr.heap.size := by omega
    have hcg := hI.cell (i := k) (by rw [length_byPad ws k (by rw [HN.out]; omega), HN.out]; exact hlt)
    have hfz := hI.frozen k
    have hgl := hI.lt
    have hgg : b ≠ g := by rw [← HG.out]; omega
    have HBY : Hid (ws[k / 8] / 2 ^ (k % 8 * 8) % 256 = byteAt ws k) := by
     show _ = _
     unfold byteAt
     rw [List.getElem?_eq_getElem hk8]; rfl
    have HST := Lib.hid (byPad_set ws k (by rw [HN.out]; exact hlt))
    obtain ⟨v, hv⟩ : ∃ v, ws[k / 8] = v := ⟨_, rfl⟩
    rw [hv] at hc' HBY
    have HI := Lib.hid hI
    have HB := Lib.hid hB
    clear hv hc hI hB
    go_wp2
    rw [HBY.out]
    refine ⟨⟨k + 1, by omega, by go_num, ?_, HB.out.setCell (p := ⟨g, k, none⟩) (by show w.heap.size ≤ g; rw [HG.out]; exact Nat.le_refl _) _⟩, by simp [intOf]; omega⟩
    rw [← HST.out]
    exact HI.out.set k _
  · obtain rfl : k = 8 * n := by omega
    have hI' : IB .u8 5 wr g (bytesL ws) := by
     have := hI
     rwa [show 8 * n = 8 * ws.length by rw [HN.out], byPad_all] at this
    have HI := Lib.hid hI'
    have HB := Lib.hid hB
    clear hI hB hI'
    go_wp2
    go_ret
    exact ⟨g, rfl, HI.out, by rw [← HG.out]; exact Nat.le_refl _, HB.out⟩
/-- The number of stores of a line that are not persistent. -/
def hlen (S : DevS) (q : Nat) : Nat := (S.lns[q]?.map (·.hist.length)).getD 0
section
variable {S : DevS} {N : Nat}
end
theorem Sl.rdW {w : World} {A : Option Addr} {n c : Nat} {xs : List Int} (h : Sl 34 1 w A n c (uints xs)) : Rd .u64 w A xs := by
 by_cases h0 : xs = []
 · exact .inl h0
 · have hlen : 0 < xs.length := List.length_pos_iff.2 h0
   obtain ⟨g, off, hA, hlt, _⟩ := h.at_ (j := 0) (by rw [length_uints]; exact hlen)
   refine .inr ⟨g, off, hA, hlt, fun i hi => ?_⟩
   obtain ⟨g', off', hA', _, hc⟩ := h.at_ (j := i) (by rw [length_uints]; exact hi)
   rw [hA] at hA'
   injection hA' with hA'
   injection hA' with e1 e2
   subst e1 e2
   rw [hc, get_uints xs i hi]
end Go.Proofs.YtaefkelaffijbaaGreatDoor
