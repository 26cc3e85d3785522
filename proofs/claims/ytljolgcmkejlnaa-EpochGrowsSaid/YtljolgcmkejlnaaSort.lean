/- Contracts of Sort of a few words that are in order. -/
import Derived.Test.YtljolgcmkejlnaaMemB
namespace Go.Proofs.Ytljolgcmkejlnaa
open Go.RowKit
set_option linter.unusedVariables false

theorem q_same {P : Program} {f : FuncId} {args : Array Value} {w : World} {n : Nat} {v : Value} (h : Calls P f args (w.drewN n) fun e w' => e = .returned v ∧ w.drewN n = w') : Calls P f args (w.drewN n) fun e w'' => e = .returned v ∧ ∃ m, w'' = w.drewN m :=
  h.mono fun _ _ ⟨he, hm⟩ => ⟨he, n, hm.symm⟩
theorem isNaNU (w : World) (x : Int) : Calls Try.prog 82 #[.int .u64 x] w fun e w' => e = .returned (.bool false) ∧ w = w' := by
  have h : (x != x) = false := by simp
  go_enter Try.func82, Try.ntmps82
  go_wp2
  go_ret
  exact ⟨rfl, rfl⟩
set_option maxRecDepth 100000 in
theorem lessU (w : World) (x y : Int) : Calls Try.prog 72 #[.int .u64 x, .int .u64 y] w fun e w' => e = .returned (.bool (decide (x < y))) ∧ w = w' := by
  go_enter Try.func72, Try.ntmps72
  go_wp2_with (go_at_call 82; refine (isNaNU _ _).mono ?_; rintro e w' ⟨rfl, rfl⟩)
  go_ret
  exact ⟨rfl, rfl⟩

set_option maxRecDepth 100000 in
set_option maxHeartbeats 1000000 in
theorem insU (w : World) (A : Option Addr) (n c : Nat) (xs : List Int) (hn : xs.length = n) (h1 : 1 ≤ n) (hm : n ≤ 1000) (hR : Rd .u64 w A xs) (hs : xs.Pairwise (· ≤ ·)) :
    Calls Try.prog 66 #[.slice A n c, .int .i64 0, .int .i64 (n : Int)] w fun e w' => e = .returned (.tuple #[]) ∧ ∃ m, w' = w.drewN m := by
  have HN := Lib.hid hn
  have HR := Lib.hid hR
  have HS := Lib.hid hs
  clear hn hR hs
  go_enter Try.func66, Try.ntmps66
  go_wp2
  go_loopw [6, 7, 10, 11, 12, 13, 14, 15, 16, 17, 18, 19, 20, 21, 22, 23, 24, 25, 26, 27, 28, 29, 30, 31, 32, 33, 34, 35, 36, 37, 38, 39, 40, 41, 42, 43, 44, 45, 46, 47, 48] (fun i _ _ _ _ _ _ _ _ _ _ _ _ _ _ _ _ _ _ _ _ _ _ _ _ _ _ _ _ _ _ _ _ _ _ _ _ _ _ _ _ wr => ∃ k m : Nat, 1 ≤ k ∧ k ≤ n ∧ i = .int .i64 k ∧ wr = w.drewN m) (fun i _ _ _ _ _ _ _ _ _ _ _ _ _ _ _ _ _ _ _ _ _ _ _ _ _ _ _ _ _ _ _ _ _ _ _ _ _ _ _ _ _ => n - (intOf i).toNat)
  case atStart => exact ⟨1, 0, by omega, by omega, rfl, rfl⟩
  case round =>
    obtain ⟨k, m, hk1, hk, rfl, rfl⟩ := hrel
    by_cases hlt : k < n
    · obtain ⟨j, rfl⟩ : ∃ j, k = j + 1 := ⟨k - 1, by omega⟩
      have hkl : j + 1 < xs.length := by rw [HN.out]; exact hlt
      obtain ⟨g, off, hA, hl, c1⟩ := HR.out.at_ hkl
      obtain ⟨g', off', hA', _, c0⟩ := HR.out.at_ (i := j) (by omega)
      rw [hA] at hA'
      injection hA' with hA'
      injection hA' with hA' hA''
      subst hA hA' hA''
      have hle := List.pairwise_iff_getElem.1 HS.out j (j + 1) (by omega) hkl (by omega)
      have hd : decide (xs[j + 1] < xs[j]) = false := by simp; omega
      have hd0 : decide ((j : Int) + 1 > 0) = true := decide_eq_true (by omega)
      have hd1 : decide (0 < (j : Int) + 1) = true := decide_eq_true (by omega)
      have q1 : ((j + 1 : Nat) : Int) = (j : Int) + 1 := by omega
      have q2 : (j : Int) + 1 - 1 = (j : Int) := by omega
      have q3 : IntKind.i64.wrap ((j : Int) + 1 - 1) = (j : Int) := by rw [q2]; exact IntWalk.i64_in _ (by omega)
      have q4 : ((j : Int) + 1).toNat = j + 1 := by omega
      clear hle
      obtain ⟨W, hW⟩ : ∃ W, w.drewN m = W := ⟨_, rfl⟩
      have c0' : W.cell? ⟨g, off + j, none⟩ = some (.int .u64 xs[j]) := by rw [← hW]; exact c0
      have c1' : W.cell? ⟨g, off + (j + 1), none⟩ = some (.int .u64 xs[j + 1]) := by rw [← hW]; exact c1
      have hl' : g < W.heap.size := by rw [← hW]; exact hl
      rw [hW]
      have HW := Lib.hid hW
      clear hW
      rw [q1]
      go_wp2
      refine wp_loop_rounds 1 ?_
      rw [rounds_succ]
      go_wp2
      refine wp_region_quiet_lit (by kernel_rfl) (by kernel_rfl) ?_
      repeat (go_big_quiet_step ((go_at_call 72; exact q_same (lessU _ _ _))))
      refine wpQuiet_nil ?_
      rintro _ ⟨nq, rfl⟩
      go_wp2
      exact ⟨⟨j + 2, m + nq, by omega, by omega, by go_num, by rw [← HW.out, World.drewN_drewN]⟩, by simp [intOf]; omega⟩
    · go_wp2
      go_end0
      exact ⟨rfl, m, rfl⟩

set_option maxRecDepth 100000 in
set_option maxHeartbeats 1000000 in
theorem pdqU (w : World) (A : Option Addr) (n c : Nat) (xs : List Int) (lim : Int) (hn : xs.length = n) (h1 : 1 ≤ n) (hm : n ≤ 12) (hR : Rd .u64 w A xs) (hs : xs.Pairwise (· ≤ ·)) :
    Calls Try.prog 64 #[.slice A n c, .int .i64 0, .int .i64 (n : Int), .int .i64 lim] w fun e w' => e = .returned (.tuple #[]) ∧ ∃ m, w' = w.drewN m := by
  have HI := Lib.hid (insU w A n c xs hn h1 (by omega) hR hs)
  have h12 : (n : Int) ≤ 12 := by omega
  clear hn hR hs
  go_enter Try.func64, Try.ntmps64
  go_wp2
  refine wp_loop_rounds 1 ?_
  rw [rounds_succ]
  go_wp2_with (go_at_call 66; refine HI.out.mono ?_; rintro e w' ⟨rfl, m, rfl⟩)
  exact bodyPost_ret (v := .tuple #[]) (by simp [results, Try.results64, go_sem]) rfl ⟨rfl, m, rfl⟩

/-- Some number. -/
def SomeI (w : World) (e : Ending) (w' : World) : Prop := ∃ z : Int, e = .returned (.int .i64 z) ∧ w = w'
set_option maxRecDepth 100000 in
set_option maxHeartbeats 1000000 in
theorem bitsLen64 (w : World) (n : Nat) (hm : n ≤ 12) : Calls Try.prog 76 #[.int .u64 (n : Int)] w (SomeI w) := by
  have e1 : ¬ (4294967296 : Int) ≤ (n : Int) := by omega
  have e2 : ¬ (65536 : Int) ≤ (n : Int) := by omega
  have e3 : ¬ (256 : Int) ≤ (n : Int) := by omega
  have e4 : IntKind.u8.wrap (n : Int) = (n : Int) := by rw [IntKind.wrap_u8]; omega
  go_enter Try.func76, Try.ntmps76
  go_wp2
  go_ret
  exact ⟨_, rfl, rfl⟩
set_option maxRecDepth 100000 in
set_option maxHeartbeats 1000000 in
theorem bitsLen (w : World) (n : Nat) (hm : n ≤ 12) : Calls Try.prog 65 #[.int .u64 (n : Int)] w (SomeI w) := by
  have HI := Lib.hid (fun w => bitsLen64 w n hm)
  go_enter Try.func65, Try.ntmps65
  go_wp2_with (go_at_call 76; refine (HI.out _).mono ?_; rintro e w' ⟨z, rfl, rfl⟩)
  go_ret
  exact ⟨_, rfl, rfl⟩
set_option maxRecDepth 100000 in
set_option maxHeartbeats 1000000 in
theorem sortU (w : World) (A : Option Addr) (n c : Nat) (xs : List Int) (hn : xs.length = n) (h1 : 1 ≤ n) (hm : n ≤ 12) (hR : Rd .u64 w A xs) (hs : xs.Pairwise (· ≤ ·)) :
    Calls Try.prog 55 #[.slice A n c] w fun e w' => e = .returned (.tuple #[]) ∧ ∃ m, w' = w.drewN m := by
  have HI := Lib.hid (fun z => pdqU w A n c xs z hn h1 hm hR hs)
  have hw : IntKind.u64.wrap (n : Int) = (n : Int) := IntWalk.u64_in _ (by omega)
  clear hn hR hs
  go_enter Try.func55, Try.ntmps55
  go_wp2_with (first | (go_at_call 65; refine (bitsLen _ n hm).mono ?_; rintro e w' ⟨z, rfl, rfl⟩) | (go_at_call 64; refine (HI.out z).mono ?_; rintro e w' ⟨rfl, m, rfl⟩))
  go_end0
  exact ⟨rfl, m, rfl⟩
end Go.Proofs.Ytljolgcmkejlnaa
