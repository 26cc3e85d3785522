/- The iterator Runs of a bitmap. -/
import Derived.Test.YtbhkdngbgokilaaDoorBmU
import Derived.Test.YtbhkdngbgokilaaDoorBmRf
namespace Go.Proofs.YtbhkdngbgokilaaDoor
open Go.RowKit Go.Shelf
set_option linter.unusedVariables false

/-- What the iterator asks of the worlds that it comes to. -/
def RunsOk (Kp : World → World → Prop) (gq T : Nat) (off : Int) (nb : Nat) (ws : List Int) (w0 : World) : Prop :=
  ∀ W, Kp w0 W → CB W gq 36 #[.iface 28 (.pointer (some ⟨T, 0, none⟩)), .int .u64 off, .int .i64 nb] ∧
    ∀ (i : Int) (set : Bool), Calls Tryd.prog 23 #[bmv T off nb, .int .i64 i, .bool set] W fun e w' => e = .returned (.int .i64 (nextB ws nb i set)) ∧ Below W.heap.size W w'
theorem nextB_T (ws : List Int) (nb k : Nat) : nextB ws nb (k : Int) true = idxO (nxT ws nb k) := by unfold nextB nxT; rw [Int.toNat_natCast]
theorem nextB_F (ws : List Int) (nb k : Nat) : nextB ws nb (k : Int) false = idxO (nxF ws nb k) := by unfold nextB nxF; rw [Int.toNat_natCast]
theorem meas_lt (ws : List Int) (nb i E : Nat) (hin : i < nb) (hE : i < E) (h : ∀ j, nxT ws nb E = some j → E ≤ j ∧ j < nb) : (if idxO (nxT ws nb E) < 0 then 0 else nb - (idxO (nxT ws nb E)).toNat) < nb - i := by
  cases hj : nxT ws nb E with
  | none => simp [idxO]; omega
  | some j =>
    have := h j hj
    have e : idxO (some j) = (j : Int) := rfl
    rw [e]
    rw [if_neg (by omega), Int.toNat_natCast]
    omega
set_option maxRecDepth 100000 in
set_option maxHeartbeats 4000000 in
theorem runs_stops (n : Nat) (hn1 : 1 ≤ n) (Kp : World → World → Prop) (hKt : ∀ {A B C : World}, Kp A B → Kp B C → Kp A C) (hKB : ∀ A B : World, Below A.heap.size A B → Kp A B) (gq T : Nat) (off : Int) (nb : Nat) (hnb : nb ≤ 512) (ws : List Int) (w0 : World) (hok : RunsOk Kp gq T off nb ws w0) :
    SeqStopsK Fence.wide n Tryd.prog 47 #[.pointer (some ⟨gq, 0, none⟩)] encsP Kp (fun xs => xs = runsR ws nb 0) (fun pre => pre <+: runsR ws nb 0) (runsR ws nb 0).length w0 := fun l J Jx W hW hJ hJx hY h0 => by
  have HOK := Lib.hid hok
  have HY := Lib.hid hY
  have HJ := Lib.hid hJ
  have HKT : Hid (∀ A B C : World, Kp A B → Kp B C → Kp A C) := fun A B C h k => hKt h k
  have HKB := Lib.hid hKB
  have hk0 : Kp w0 W := hKB w0 W hW
  obtain ⟨hc, hnx⟩ := hok W hk0
  have k0 := hc.cell 0
  have k1 := hc.cell 1
  have k2 := hc.cell 2
  have kl := hc.lt
  have HN0 := Lib.hid (hnx 0 true)
  have HK0 := Lib.hid hk0
  have HJ0 := Lib.hid h0
  unfold bmv at HN0
  rw [show (0 : Int) = ((0 : Nat) : Int) from rfl, nextB_T] at HN0
  obtain ⟨v0, hv0⟩ : ∃ v0, idxO (nxT ws nb 0) = v0 := ⟨_, rfl⟩
  rw [hv0] at HN0
  have HV0 := Lib.hid hv0
  clear hv0
  clear hok hY hJ hJx hKB hc hnx hk0 h0 hKt
  show CallsIn Fence.wide n Tryd.prog 47 #[.func (.yield l) #[] #[], .pointer (some ⟨gq, 0, none⟩)] W _
  refine callsIn_of_wp Tryd.func47 rfl trivial ?_ rfl
  simp only [Tryd.ntmps47, List.size_toArray, List.length_cons, List.length_nil, Nat.reduceAdd, Nat.reduceSub, Array.replicate_succ, Array.replicate_zero, List.push_toArray, List.append_toArray, List.nil_append, List.cons_append]
  gi_wp2_with (refine ⟨trivial, ?_⟩; gi_at_call 23; refine (callsIn_wide.2 HN0.out).mono ?_; rintro e w' ⟨rfl, hb⟩; obtain ⟨x, rfl⟩ := bx_of hb; clear hb)
  have HI0 : Hid (J [] x.w ∧ Kp w0 x.w) := ⟨HJ.out [] W x.w none HJ0.out (grown_of_below x.below) (fun r e => by cases e), HKT.out _ _ _ HK0.out (HKB.out _ _ x.below)⟩
  obtain ⟨W1, hW1⟩ : ∃ W1, x.w = W1 := ⟨_, rfl⟩
  rw [hW1] at HI0
  rw [hW1]
  clear hW1 k0 k1 k2 kl HN0 HK0 HJ0
  gi_loopw [3, 4, 7, 8, 9, 10, 11, 12, 13, 14, 15, 16, 17, 18, 19, 20, 21, 22, 23, 24, 25, 26] (fun i _ _ _ _ _ _ _ _ _ _ _ _ _ _ _ _ _ _ _ _ _ wr => ∃ (pre : List (Int × Int)) (k : Nat), i = .int .i64 (idxO (nxT ws nb k)) ∧ pre ++ runsR ws nb k = runsR ws nb 0 ∧ J pre wr ∧ Kp w0 wr) (fun i _ _ _ _ _ _ _ _ _ _ _ _ _ _ _ _ _ _ _ _ _ _ => if intOf i < 0 then 0 else nb - (intOf i).toNat)
  case atStart => exact ⟨[], 0, congrArg (Value.int .i64) HV0.out.symm, rfl, HI0.out⟩
  case round =>
    clear HI0 HV0
    obtain ⟨pre, k, rfl, hP, hJp, hKp⟩ := hrel
    have HP := Lib.hid hP
    have HJP := Lib.hid hJp
    have HKP := Lib.hid hKp
    obtain ⟨hc, hnx⟩ := HOK.out wr hKp
    have k0 := hc.cell 0
    have k1 := hc.cell 1
    have k2 := hc.cell 2
    have kl := hc.lt
    clear hP hJp hKp
    cases hn : nxT ws nb k with
    | none =>
      have HE := Lib.hid (runsR_none hn)
      clear hn hc hnx
      simp only [idxO]
      gi_wp2
      go_end0
      refine ⟨⟨_, rfl⟩, .inl ⟨pre, ?_, HJP.out⟩⟩
      have := HP.out
      rwa [HE.out, List.append_nil] at this
    | some i =>
      obtain ⟨hin, hre⟩ := runsR_some hn
      obtain ⟨hE1, hE2⟩ := nxF_getD ws nb i hin
      have HN1 := Lib.hid (hnx ((i + 1 : Nat) : Int) false)
      unfold bmv at HN1
      rw [nextB_F, show ((i + 1 : Nat) : Int) = (i : Int) + 1 by omega] at HN1
      simp only [idxO]
      obtain ⟨E, hE⟩ : ∃ E, (nxF ws nb (i + 1)).getD nb = E := ⟨_, rfl⟩
      rw [hE] at hre hE1 hE2
      have HRE := Lib.hid hre
      have hlen : pre.length < (runsR ws nb 0).length := by
        rw [← HP.out, hre, List.length_append, List.length_cons]; omega
      have HY1 : Hid (∀ x : BX wr, ∃ fn tmps assign body, (Instr.yield l #[.int .i64 (i : Int), .int .i64 ((E : Int) - (i : Int))]).run Tryd.prog x.w = .ok (.round l fn tmps assign body) x.w ∧ RoundIn Fence.wide (n - 1) Tryd.prog l fn tmps assign body x.w fun e W' =>
          (e = .returned (.bool true) ∧ J (pre ++ [((i : Int), (E : Int) - (i : Int))]) W' ∧ Kp w0 W') ∨ (e = .returned (.bool false) ∧ Jx (pre ++ [((i : Int), (E : Int) - (i : Int))]) W')) := by
        intro x
        obtain ⟨fn, tmps, assign, body, hy, hR⟩ := HY.out pre ((i : Int), (E : Int) - (i : Int)) x.w (HJ.out pre wr x.w none HJP.out (grown_of_below x.below) (fun r e => by cases e)) hlen
        refine ⟨fn, tmps, assign, body, hy, hR.mono ?_⟩
        rintro e W' (⟨h1, h2, h3⟩ | h)
        · exact .inl ⟨h1, h2, HKT.out _ _ _ (HKT.out _ _ _ HKP.out (HKB.out _ _ x.below)) h3⟩
        · exact .inr h
      have HMS : Hid (∀ j, nxT ws nb E = some j → E ≤ j ∧ j < nb) := by
        intro j hj
        have hs := nextP_spec (fun m => bitW ws m == true) (nb - E) E
        unfold nxT at hj
        rw [hj] at hs
        exact ⟨hs.1, by have := hs.2.1; omega⟩
      have hi0 : ¬ (i : Int) < 0 := by omega
      have hi1 : (i : Int) ≥ 0 := by omega
      clear hn hc hnx hre hlen
      cases hf : nxF ws nb (i + 1) with
      | none =>
        rw [hf] at hE HN1
        obtain rfl : nb = E := hE
        simp only [idxO] at HN1
        clear hf
        gi_wp2_with (first
          | (refine ⟨trivial, ?_⟩; gi_at_call 23; refine (callsIn_wide.2 HN1.out).mono ?_; rintro e w' ⟨rfl, hb⟩; obtain ⟨x, rfl⟩ := bx_of hb; clear hb; obtain ⟨fn, tmps, assign, body, hy, hR⟩ := HY1.out x))
        refine hR.mono ?_
        rintro e W' (⟨rfl, hJ2, hK2⟩ | ⟨rfl, hJx2⟩)
        · obtain ⟨hc2, hnx2⟩ := HOK.out W' hK2
          have HN2 := Lib.hid (hnx2 (nb : Int) true)
          unfold bmv at HN2
          rw [nextB_T] at HN2
          obtain ⟨v2, hv2⟩ : ∃ v2, idxO (nxT ws nb nb) = v2 := ⟨_, rfl⟩
          rw [hv2] at HN2
          have HV2 := Lib.hid hv2
          have HJ2 := Lib.hid hJ2
          have HK2 := Lib.hid hK2
          clear k0 k1 k2 kl hv2 hnx2 hJ2 hK2
          have k0 := hc2.cell 0
          have k1 := hc2.cell 1
          have k2 := hc2.cell 2
          have kl := hc2.lt
          clear hc2
          gi_wp2_with (refine ⟨trivial, ?_⟩; gi_at_call 23; refine (callsIn_wide.2 HN2.out).mono ?_; rintro e w' ⟨rfl, hb⟩; obtain ⟨y, rfl⟩ := bx_of hb; clear hb)
          go_roundw
          case rel =>
            refine ⟨_, nb, congrArg (Value.int .i64) HV2.out.symm, ?_, HJ.out _ W' y.w none HJ2.out (grown_of_below y.below) (fun r e => by cases e), HKT.out _ _ _ HK2.out (HKB.out _ _ y.below)⟩
            rw [List.append_assoc, List.singleton_append, ← HRE.out]
            exact HP.out
          case measure =>
            show (if v2 < 0 then 0 else nb - v2.toNat) < (if (i : Int) < 0 then 0 else nb - (i : Int).toNat)
            rw [if_neg (show ¬ (i : Int) < 0 by omega), ← HV2.out, Int.toNat_natCast]
            exact meas_lt ws nb i nb hin (by omega) HMS.out
        · gi_wp2
          refine bodyPost_ret (results_none rfl _ _ _) rfl ?_
          refine ⟨⟨_, rfl⟩, .inr ⟨_, ⟨runsR ws nb nb, ?_⟩, hJx2⟩⟩
          rw [List.append_assoc, List.singleton_append, ← HRE.out]
          exact HP.out
      | some e =>
        rw [hf] at hE HN1
        obtain rfl : e = E := hE
        simp only [idxO] at HN1
        have he0 : ¬ (e : Int) < 0 := by omega
        clear hf
        gi_wp2_with (first
          | (refine ⟨trivial, ?_⟩; gi_at_call 23; refine (callsIn_wide.2 HN1.out).mono ?_; rintro e w' ⟨rfl, hb⟩; obtain ⟨x, rfl⟩ := bx_of hb; clear hb; obtain ⟨fn, tmps, assign, body, hy, hR⟩ := HY1.out x))
        refine hR.mono ?_
        rintro r W' (⟨rfl, hJ2, hK2⟩ | ⟨rfl, hJx2⟩)
        · obtain ⟨hc2, hnx2⟩ := HOK.out W' hK2
          have HN2 := Lib.hid (hnx2 (e : Int) true)
          unfold bmv at HN2
          rw [nextB_T] at HN2
          obtain ⟨v2, hv2⟩ : ∃ v2, idxO (nxT ws nb e) = v2 := ⟨_, rfl⟩
          rw [hv2] at HN2
          have HV2 := Lib.hid hv2
          have HJ2 := Lib.hid hJ2
          have HK2 := Lib.hid hK2
          clear k0 k1 k2 kl hv2 hnx2 hJ2 hK2
          have k0 := hc2.cell 0
          have k1 := hc2.cell 1
          have k2 := hc2.cell 2
          have kl := hc2.lt
          clear hc2
          gi_wp2_with (refine ⟨trivial, ?_⟩; gi_at_call 23; refine (callsIn_wide.2 HN2.out).mono ?_; rintro r w' ⟨rfl, hb⟩; obtain ⟨y, rfl⟩ := bx_of hb; clear hb)
          go_roundw
          case rel =>
            refine ⟨_, e, congrArg (Value.int .i64) HV2.out.symm, ?_, HJ.out _ W' y.w none HJ2.out (grown_of_below y.below) (fun r e => by cases e), HKT.out _ _ _ HK2.out (HKB.out _ _ y.below)⟩
            rw [List.append_assoc, List.singleton_append, ← HRE.out]
            exact HP.out
          case measure =>
            show (if v2 < 0 then 0 else nb - v2.toNat) < (if (i : Int) < 0 then 0 else nb - (i : Int).toNat)
            rw [if_neg (show ¬ (i : Int) < 0 by omega), ← HV2.out, Int.toNat_natCast]
            exact meas_lt ws nb i e hin (by omega) HMS.out
        · gi_wp2
          refine bodyPost_ret (results_none rfl _ _ _) rfl ?_
          refine ⟨⟨_, rfl⟩, .inr ⟨_, ⟨runsR ws nb e, ?_⟩, hJx2⟩⟩
          rw [List.append_assoc, List.singleton_append, ← HRE.out]
          exact HP.out
end Go.Proofs.YtbhkdngbgokilaaDoor
