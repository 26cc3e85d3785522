/- same of the laws: the clock is in the reference's state. -/
import Derived.Test.YtljolgcmkejlnaaEpS
namespace Go.Proofs.Ytljolgcmkejlnaa
open Go.RowKit
set_option linter.unusedVariables false

set_option maxRecDepth 100000 in
theorem ckAnnounced_bad (w : World) (c : Nat) (z : Int) (hz : 8 ≤ z) : Calls Try.prog 21 #[.pointer (some ⟨c, 0, none⟩), .int .i64 z] w fun r w' => r = .returned (.tuple #[.int .u64 0, .bool false]) ∧ w = w' := by
  have h0 : ¬ z < 0 := by omega
  go_enter Try.func21, Try.ntmps21
  go_wp2
  go_ret2
  exact ⟨rfl, rfl⟩
section
variable {F : Nat → Prop} {d : Nat} {t : Nat → Nat} {c : Nat} {w w0 : World} {S : DevS} {n q : Nat} {xs : List Int} {e : Int} {an : Nat → Int} {N : Nat}
set_option maxRecDepth 100000 in
set_option maxHeartbeats 4000000 in
theorem same18 (h : Ep F d t c w S n q xs e an N) : Calls Try.prog 12 #[.pointer (some ⟨c, 0, none⟩), rcv e an] w fun r w' => r = .returned (.bool true) ∧ Below w.heap.size w w' := by
  have hee := h.he
  have he3 : IntKind.u64.wrap (e + 3) = e + 3 := IntWalk.u64_in _ (by omega)
  have H := Lib.hid h
  clear h
  have HE0 : Hid (Ep F d t c (w.alloc (.cells (rcC e an) 28)) S n q xs e an N) := H.out.below (bl_alloc (Below.refl _ _) _)
  have hR0 : CB (w.alloc (.cells (rcC e an) 28)) w.heap.size 28 (rcC e an) := CB.new _ _ _
  have HB0 : Hid (Below w.heap.size w (w.alloc (.cells (rcC e an) 28))) := bl_alloc (Below.refl _ _) _
  unfold rcv
  unfold rcC at HE0 hR0 HB0
  go_enter Try.func12, Try.ntmps12
  go_upto_region 1 with (fail)
  obtain ⟨W, hW⟩ : ∃ W, w.alloc (.cells #[.int .u64 e, .int .u64 (an 0), .int .u64 (an 1), .int .u64 (an 2), .int .u64 (an 3), .int .u64 (an 4), .int .u64 (an 5), .int .u64 (an 6), .int .u64 (an 7)] 28) = W := ⟨_, rfl⟩
  obtain ⟨g, hg⟩ : ∃ g, w.heap.size = g := ⟨_, rfl⟩
  rw [hW] at HE0 hR0 HB0
  rw [hg] at hR0
  rw [hW, hg]
  have hgw : w.heap.size ≤ g := by omega
  obtain ⟨r0, r1, r2, r3, r4, r5, r6, r7, r8, rl⟩ := CB.rc (an := an) (e := e) hR0
  have HR0 := Lib.hid hR0
  have hne : (e != e) = false := by simp
  clear hW hg H hR0
  refine wp_region_quiet_lit (by kernel_rfl) (by kernel_rfl) ?_
  repeat (go_big_quiet_step ((go_at_call 16; exact q_same (ckNow (HE0.out.below (below_drewN (Below.refl _ _) _))))))
  refine wpQuiet_nil ?_
  rintro _ ⟨nq, rfl⟩
  have HE1 := Lib.hid (HE0.out.below (below_drewN (Below.refl _ _) nq))
  have hR1 : CB (W.drewN nq) g 28 (rcC e an) := HR0.out.drewN nq
  have HB1 := Lib.hid (bl_drewN HB0.out nq)
  obtain ⟨W1, hW1⟩ : ∃ W1, W.drewN nq = W1 := ⟨_, rfl⟩
  rw [hW1] at HE1 hR1 HB1
  rw [hW1]
  clear hW1 HE0 HR0 HB0 r0 r1 r2 r3 r4 r5 r6 r7 r8 rl
  obtain ⟨r0, r1, r2, r3, r4, r5, r6, r7, r8, rl⟩ := hR1.rc
  have HR1 := Lib.hid hR1
  clear hR1
  go_wp2
  go_loop [23, 5, 6, 7, 8, 24, 25, 26, 27, 28, 29, 30, 31, 32, 33, 34, 35, 36, 37, 38, 39, 40, 41, 42] (fun i _ _ _ _ _ _ _ _ _ _ _ _ _ _ _ _ _ _ _ _ _ _ _ => ∃ k : Nat, k ≤ 8 ∧ i = .int .i64 k) (fun i _ _ _ _ _ _ _ _ _ _ _ _ _ _ _ _ _ _ _ _ _ _ _ => 8 - (intOf i).toNat)
  case atStart => exact ⟨0, by omega, rfl⟩
  case round =>
    obtain ⟨k, hk, rfl⟩ := hrel
    by_cases hlt : k < 8
    · have hix := fun W => run_idx an W k hlt
      have hlt' : (k : Int) < 8 := by omega
      obtain ⟨a, ha⟩ : ∃ a, an k = a := ⟨_, rfl⟩
      have HAN : Hid (Calls Try.prog 21 #[.pointer (some ⟨c, 0, none⟩), .int .i64 (k : Int)] W1 fun r w' => r = .returned (.tuple #[.int .u64 a, .bool (a != 0)]) ∧ W1 = w') := by
        have := ckAnnounced HE1.out k hlt
        rwa [ha] at this
      rw [ha] at hix
      clear ha
      have haa : (a != a) = false := by simp
      by_cases h0 : a = 0
      · subst h0
        go_wp2_with (go_at_call 21; refine HAN.out.mono ?_; rintro r w' ⟨rfl, rfl⟩)
        go_round
        case rel => exact ⟨k + 1, by omega, by go_num⟩
        case measure => simp [intOf]; omega
      · have h1' : (a != 0) = true := by simpa using h0
        rw [h1'] at HAN
        go_wp2_with (go_at_call 21; refine HAN.out.mono ?_; rintro r w' ⟨rfl, rfl⟩)
        go_round
        case rel => exact ⟨k + 1, by omega, by go_num⟩
        case measure => simp [intOf]; omega
    · obtain rfl : k = 8 := by omega
      go_wp2
      go_loopw [9, 43, 44, 45, 46, 47, 48, 49, 50, 51, 52, 53, 54, 55, 56, 57, 58, 59, 60] (fun a _ _ _ _ _ _ _ _ _ _ _ _ _ _ _ _ _ _ wr => ∃ k : Nat, k ≤ 40 ∧ a = .int .u64 k ∧ Below W1.heap.size W1 wr) (fun a _ _ _ _ _ _ _ _ _ _ _ _ _ _ _ _ _ _ _ => 40 - (intOf a).toNat)
      case atStart => exact ⟨0, by omega, rfl, Below.refl _ _⟩
      case round =>
        obtain ⟨k, hk, rfl, hb⟩ := hrel
        have hR2 : CB wr g 28 (rcC e an) := HR1.out.below hb
        have HE2 := Lib.hid (HE1.out.below hb)
        have HB2 := Lib.hid (bl_ch (S := fun _ => False) HB1.out (Ch.of_below hb) (fun _ h => h.elim))
        have HB := Lib.hid hb
        clear r0 r1 r2 r3 r4 r5 r6 r7 r8 rl hb
        obtain ⟨r0, r1, r2, r3, r4, r5, r6, r7, r8, rl⟩ := hR2.rc
        clear hR2
        by_cases hin : (k : Int) < e + 3 ∧ (k : Int) < 40
        · obtain ⟨hi1, hi2⟩ := hin
          obtain ⟨sb, hsb⟩ : ∃ b, safeB e an (k : Int) = b := ⟨_, rfl⟩
          have HSF : Hid (∀ x : BX wr, Calls Try.prog 18 #[.pointer (some ⟨c, 0, none⟩), .int .u64 (k : Int)] x.w fun r w' => r = .returned (.bool sb) ∧ x.w = w') := fun x => by have := ckSafe (HE2.out.below x.below) (k : Int); rwa [hsb] at this
          have HRS : Hid (∀ x : BX wr, Calls Try.prog 35 #[rcv e an, .int .u64 (k : Int)] x.w fun r w' => r = .returned (.bool sb) ∧ Below x.w.heap.size x.w w') := fun x => by have := refSafe x.w e an (k : Int); rwa [hsb] at this
          unfold rcv at HRS
          have hss : (sb != sb) = false := by simp
          clear hsb
          have hk1 : IntKind.u64.wrap ((k : Int) + 1) = (k : Int) + 1 := IntWalk.u64_in _ (by omega)
          go_upto_region 13 with (fail)
          refine wp_region_bx (by kernel_rfl) (by kernel_rfl) ?_
          repeat (go_big_quiet_step (first | (go_at_call 18; exact bx_calle (HSF.out _)) | (go_at_call 35; exact bx_call (HRS.out _))))
          refine wpQuiet_nil ?_
          rintro _ ⟨x, rfl⟩
          go_wp2
          exact ⟨⟨k + 1, by omega, by go_num, HB.out.trans (x.below.mono HB.out.size)⟩, by simp [intOf]; omega⟩
        · have HAB : Hid (Calls Try.prog 21 #[.pointer (some ⟨c, 0, none⟩), .int .i64 8] wr fun r w' => r = .returned (.tuple #[.int .u64 0, .bool false]) ∧ wr = w') := ckAnnounced_bad wr c 8 (by omega)
          by_cases hi1 : (k : Int) < e + 3
          · have hi2 : ¬ (k : Int) < 40 := by omega
            go_wp2_with (go_at_call 21; refine HAB.out.mono ?_; rintro r w' ⟨rfl, rfl⟩)
            go_ret
            exact ⟨rfl, HB2.out⟩
          · go_wp2_with (go_at_call 21; refine HAB.out.mono ?_; rintro r w' ⟨rfl, rfl⟩)
            go_ret
            exact ⟨rfl, HB2.out⟩
end
end Go.Proofs.Ytljolgcmkejlnaa
