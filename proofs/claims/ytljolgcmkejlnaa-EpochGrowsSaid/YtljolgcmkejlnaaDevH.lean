/- Contract of Fence of a thread, with whatever notes. -/
import Derived.Test.YtljolgcmkejlnaaDevF
namespace Go.Proofs.Ytljolgcmkejlnaa
open Go.RowKit
set_option linter.unusedVariables false

theorem ranges_keep {P : Program} {k : TypeId} {R : Value → Option (DataW Unit × List MemPlace)} {w w' : World} {b r n : Nat} {D : DataW Unit} {left : Lit → Bool} {cnt : Nat} (h : w.ranges P k R b r n D left cnt)
    (h1 : w'.heap[b]? = w.heap[b]?) (h2 : w'.heap[r]? = w.heap[r]?) : w'.ranges P k R b r n D left cnt := by
  obtain ⟨es, clock, since, seen, c0, a1, a2, a3, a4, a5, a6⟩ := h
  exact ⟨es, clock, since, seen, c0, h1.trans a1, a2, a3, a4, h2.trans a5, a6⟩

/-- How many stores are persisted of each line, when these notes are still to come. -/
def fenceK (S : DevS) (i : Nat) (left : Lit → Bool) (q : Nat) : Nat := if left (.int .i64 (q : Int)) = true then 0 else S.due i q
/-- The loop's invariant. -/
def FenInv (w : World) (d i : Nat) (L : Lay) (S : DevS) (D : DataW Unit) (r : Nat) (wr : World) (left : Lit → Bool) (cnt : Nat) : Prop :=
  wr.ranges Try.prog 3 (plainElem Try.prog 25) (L.m i) r (S.thr i).flu D left cnt ∧
    (∃ L2, L2.t = L.t ∧ L2.m = L.m ∧ L2.role = L.role ∧ Dev wr d L2 (S.upto (fenceK S i left))) ∧ Ch (fun b => Fp L b ∨ b = r) w wr

section
variable {S : DevS} {N : Nat} {i : Nat}
theorem fenceK_start (D : DataW Unit) (h : Good S N) (hi : i < 8) (hn : S.lns.length ≤ 4096) (hD : ∀ x, (Lit.int .i64 x).wf = true → Maps.has D (.int .i64 x) = ((S.thr i).notes x).isSome ∧ ∀ c, (S.thr i).notes x = some c → ∀ z, D.atKey (.int .i64 x) z = .lit (.int .u64 c)) :
    fenceK S i (Maps.has D) = fun _ => 0 := by
  funext q
  unfold fenceK
  split
  · rfl
  · rename_i hh
    unfold DevS.due
    cases hn' : (S.thr i).notes (q : Int) with
    | none => rfl
    | some c =>
      exfalso
      obtain ⟨q', l, b1, b2, _⟩ := (h.nt i hi).2 _ _ hn'
      have hq' := (List.getElem?_eq_some_iff.1 b1).1
      have hwf : (Lit.int .i64 (q : Int)).wf = true := wf_mk _ _ (by show (-9223372036854775808 : Int) ≤ _; omega) (by show (_ : Int) ≤ 9223372036854775807; omega)
      rw [(hD _ hwf).1, hn'] at hh
      exact hh rfl
theorem fenceK_end (left : Lit → Bool) (h : ∀ kl, left kl = false) : fenceK S i left = S.due i := by
  funext q
  unfold fenceK
  rw [h]; rfl
theorem fenceK_step (left : Lit → Bool) (q : Nat) : fenceK S i (fun z => left z && !z.sameKey (.int .i64 (q : Int))) = fun j => if j = q then S.due i q else fenceK S i left j := by
  funext j
  unfold fenceK
  by_cases hj : j = q
  · subst hj
    simp [Lit.sameKey]
  · have hne : ¬ (j : Int) = (q : Int) := by omega
    simp [Lit.sameKey, hj, hne]
theorem due_of {q : Nat} {c : Int} {l : Ln} (hn : (S.thr i).notes (q : Int) = some c) (hl : S.lns[q]? = some l) : S.due i q = (c - l.done).toNat := by
  unfold DevS.due; rw [hn, hl]; rfl
end

set_option maxRecDepth 100000 in
set_option maxHeartbeats 2000000 in
theorem thFence_on (w : World) (d : Nat) (L : Lay) (S : DevS) (N : Nat) (h : Dev w d L S) (i : Nat) (hi : i < 8) (hc : S.cntB true = true) (hG : Good (S.cnt i true) N) (hN : N < 1000000000) :
    Calls Try.prog 101 #[.pointer (some ⟨L.t i, 0, none⟩)] w fun e w' => e = .returned (.tuple #[]) ∧ (∃ L2, L2.t = L.t ∧ L2.role = L.role ∧ Dev w' d L2 (S.fence i)) ∧ Ch (Fp L) w w' := by
  have h0 := h.t0 hi
  have hl := h.tlt hi
  have H := Lib.hid h
  have HC : Hid (Calls Try.prog 46 #[.pointer (some ⟨L.t i, 0, none⟩), .bool true] w fun e w' => e = .returned (.bool true) ∧ Dev w' d L (S.cnt i true) ∧ Ch (Fp L) w w') := by
    have := thCounted w d L S h i hi true
    rwa [hc] at this
  have HE : Hid (S.fence i = (((S.cnt i true).upto ((S.cnt i true).due i))).clearN i) := by show _ = _; unfold DevS.fence; rw [if_pos hc]
  have HG := Lib.hid hG
  clear h hc hG
  obtain ⟨T, hT⟩ : ∃ T, S.cnt i true = T := ⟨_, rfl⟩
  rw [hT] at HC HE HG
  clear hT
  go_enter Try.func101, Try.ntmps101
  go_upto_region 1 with (first | (go_at_call 46; refine HC.out.mono ?_; rintro e w1 ⟨rfl, hD, hC⟩; have HD := Lib.hid hD; have HCh := Lib.hid hC; clear hD hC))
  have h3 := HD.out.t3 hi
  have hl3 := HD.out.tlt hi
  obtain ⟨D, hown, hD2⟩ := HD.out.nts i hi
  have HO := Lib.hid hown
  have HD2 := Lib.hid hD2
  clear hown hD2
  go_wp2_with (first | (at_range; refine wpList_range_own _ rfl _ 100 rfl 3 25 (Maps.int_keyed under_int) under_notes _ (L.m i) _ D rfl HO.out ?_; intro w0 hrg0 hg0 hs0) | go_in)
  go_frame
  have hmr : L.role w1.heap.size = 0 := Decidable.byContradiction fun hne => by have := HD.out.fr _ hne; omega
  have hI0 : FenInv w d i L T D w1.heap.size w0 (Maps.has D) (Maps.size D) := by
    refine ⟨hrg0, ⟨L, rfl, rfl, rfl, ?_⟩, ?_⟩
    · rw [fenceK_start D HG.out hi HD.out.nl.2 HD2.out, upto_zero HG.out hN]
      exact HD.out.keep (fun b hb => hg0.block b (HD.out.fr b hb) (by simp)) hg0.size
    · exact (HCh.out.mono (fun b h _ => .inl h)).trans (T := fun _ => False) ⟨hg0.os, hg0.tape, hg0.output, hg0.size, fun b hb _ => hg0.block b hb (by simp)⟩ (fun b hb => hb.elim)
  have HI0 := Lib.hid hI0
  obtain ⟨r, hr⟩ : ∃ r, w1.heap.size = r := ⟨_, rfl⟩
  have hlr : w.heap.size ≤ r := by rw [← hr]; exact HCh.out.size
  rw [hr] at hmr HI0 ⊢
  clear hrg0 hg0 hs0 hI0 h3 hl3 HO HD HCh h0 hl hr HC H
  go_loopw [2, 3, 4, 24, 25, 26, 27, 28, 29, 30, 31, 32, 33, 34, 35, 36, 37, 38, 39, 40, 41, 42, 43, 44, 45, 46, 47, 48, 49, 50, 51, 52] (fun _ _ _ _ _ _ _ _ _ _ _ _ _ _ _ _ _ _ _ _ _ _ _ _ _ _ _ _ _ _ _ _ wr => ∃ left cnt, FenInv w d i L T D r wr left cnt) (fun _ _ _ _ _ _ _ _ _ _ _ _ _ _ _ _ _ _ _ _ _ _ _ _ _ _ _ _ _ _ _ _ wr => wr.rangeLeft (L.m i) r)
  case atStart => exact ⟨_, _, HI0.out⟩
  case round =>
    clear HI0
    obtain ⟨left, cnt, hrg, ⟨L2, hLt, hLm, hLr, hD⟩, hCh⟩ := hrel
    have HRG := Lib.hid hrg
    have HD := Lib.hid hD
    have HCh := Lib.hid hCh
    have HLt := Lib.hid hLt
    have HLm := Lib.hid hLm
    have HLr := Lib.hid hLr
    have hle := hrg.left_eq
    have HLE := Lib.hid hle
    have a0 := hD.t0 hi
    have a1 := hD.tlt hi
    have a2 := hD.lt
    have a3 := hD.lcell
    have a4 := hD.t3 hi
    have hnl := hD.nl
    obtain ⟨cs, hL, hLs, hLc⟩ := hD.lin
    have hll := hL.lt
    have HL := Lib.hid hL
    have HLC := Lib.hid hLc
    rw [hLt] at a0 a1 a4
    rw [hLm] at a4
    rw [(length_upto _).2] at a3 hnl
    clear hrg hD hCh hLt hLm hLr hL hLs hLc hle
    go_wp2_with (first | (at_next; refine wpList_next_ranges_ii _ rfl _ rfl 3 25 .i64 .u64 (Maps.int_keyed under_int) under_int under_u64 (L.m i) _ _ _ _ _ rfl HRG.out ?_ ?_) | go_in)
    · intro hc0 hl0
      obtain ⟨es, clock, hb0, _⟩ := HRG.out.owns
      have hcl := fun ty => run_clear_map (P := Try.prog) wr 100 ty 3 25 under_notes (L.m i) es clock hb0
      have HL0 := Lib.hid hl0
      clear hl0 hc0
      go_wp2
      go_end0
      rw [HE.out]
      have hK : fenceK T i left = T.due i := fenceK_end left HL0.out
      have hD := HD.out
      rw [hK] at hD
      have hml : L.m i < wr.heap.size := (Array.getElem?_eq_some_iff.1 hb0).1
      have hb2 : ∀ b, b ≠ L.m i → (wr.heap.setIfInBounds (L.m i) (Obj.map #[] clock))[b]? = wr.heap[b]? := by
        intro b hb
        rw [Array.getElem?_setIfInBounds, if_neg (fun h => hb h.symm)]
      refine ⟨rfl, ⟨L2, HLt.out, HLr.out, ?_⟩, ?_⟩
      · have hN := NMap.cleared wr (L.m i) clock hml
        rw [← HLm.out] at hN hb2 ⊢
        exact hD.setNotes hi (fun b _ hb => hb2 b hb) (by simp) (fun _ => none) 0 hN
      · refine ⟨HCh.out.os, HCh.out.tape, HCh.out.output, by simpa using HCh.out.size, fun b hb hf => ?_⟩
        have hbm : b ≠ L.m i := by
          rintro rfl
          apply hf
          unfold Fp
          have := HD.out.rm i hi
          rw [HLm.out, HLr.out] at this
          rw [this]; omega
        exact (hb2 b hbm).trans (HCh.out.block b hb (by
          rintro (h | h)
          · exact hf h
          · omega))
    · intro x c w2 cnt2 hwx hwc hlx hat hrg2 hlt2 hg2 hs2 hen
      have hhas := Maps.has_true_of_atKey hat
      rw [(HD2.out x hwx).1] at hhas
      obtain ⟨c', hc'⟩ := Option.isSome_iff_exists.1 hhas
      obtain rfl : c = c' := by
        have h1 := (HD2.out x hwx).2 c' hc' .nil
        rw [hat .nil] at h1
        injection h1 with h1
        injection h1 with h1
      obtain ⟨q, l, hl, rfl, hc0, hcl⟩ := (HG.out.nt i hi).2 x c hc'
      have hqn : q < T.lns.length := (List.getElem?_eq_some_iff.1 hl).1
      have hdue := due_of hc' hl
      have hK0 : fenceK T i left q = 0 := by unfold fenceK; rw [if_pos hlx]
      have hdn := HG.out.ln q l hl
      have hgb : ∀ b, b ≠ r → w2.heap[b]? = wr.heap[b]? := fun b hb => by
        by_cases hbl : b < wr.heap.size
        · exact hg2.block b hbl (fun h => hb (by injection h))
        · rw [Array.getElem?_eq_none (by omega), Array.getElem?_eq_none (by omega)]
      have hrn : ∀ b, Fp L2 b → b ≠ r := by
        rintro b hb rfl
        apply hb
        rw [HLr.out]; exact hmr
      have hD2 : Dev w2 d L2 (T.upto (fenceK T i left)) := HD.out.keep (fun b hb => hgb b (hrn b hb)) hg2.size
      have hql : q < (T.upto (fenceK T i left)).lns.length := by rw [(length_upto _).2]; exact hqn
      have hln : (T.upto (fenceK T i left)).lns[q] = l := by
        have := upto_ln (S := T) (fenceK T i left) q
        rw [List.getElem?_eq_getElem hql, hl, hK0] at this
        simp only [Option.map_some, Option.some.injEq] at this
        rw [this]
        have := wrap_done HG.out hl hN 0 (Nat.zero_le _)
        simp only [Int.natCast_zero, Int.add_zero] at this
        simp [this]
      obtain ⟨b1, b2⟩ := HLC.out q hql
      rw [hln] at b1 b2
      have hcl1 : w2.cell? ⟨L2.lb, q * 2, none⟩ = some (.int .u64 l.done) := by
        have := (HL.out.keep (w' := w2) (hgb _ (hrn _ (by unfold Fp; rw [HD.out.rl]; omega)))).cell_some b1
        rwa [show 2 * q = q * 2 by omega] at this
      have e0 : w2.cell? ⟨L.t i, 0, none⟩ = some (.pointer (some ⟨d, 0, none⟩)) := by have := hD2.t0 hi; rwa [HLt.out] at this
      have e1 : L.t i < w2.heap.size := by have := hD2.tlt hi; rwa [HLt.out] at this
      have e2 := hD2.lt
      have e3 : w2.cell? ⟨d, 2, none⟩ = some (.slice (some ⟨L2.lb, 0, none⟩) T.lns.length T.lns.length) := by have := hD2.lcell; rwa [(length_upto _).2] at this
      have e4 : L2.lb < w2.heap.size := by omega
      obtain ⟨dn, hdn'⟩ : ∃ dn, l.done = dn := ⟨_, rfl⟩
      rw [hdn'] at hcl1 hdue hcl hdn
      have HDN := Lib.hid hdn'
      have HRG2 := Lib.hid hrg2
      have HD2' := Lib.hid hD2
      have HG2 := Lib.hid hg2
      have HDUE := Lib.hid hdue
      have HLN := Lib.hid hln
      have HHL := Lib.hid hl
      have HK0 := Lib.hid hK0
      have HGB := Lib.hid hgb
      have HDL := Lib.hid hdn
      have HRN := Lib.hid hrn
      have hcl2 : c ≤ dn + (l.hist.length : Int) := hcl
      clear hat hrg2 hg2 hgb hD2 hln hhas hc' hdue hdn' hK0 b1 b2 hl hdn a0 a1 a2 a3 a4 hll hrn hcl
      by_cases hgt : dn < c
      · obtain ⟨k, hk⟩ : ∃ k : Nat, c - dn = (k : Int) := ⟨(c - dn).toNat, by omega⟩
        have hk1 : 1 ≤ k := by omega
        have hkl : k ≤ l.hist.length := by omega
        have hu1 : IntKind.u64.wrap (c - dn) = (k : Int) := by rw [hk]; exact IntWalk.u64_in _ (by have := HDL.out.2.1; have := HDL.out.1; omega)
        have hu2 : IntKind.i64.wrap (k : Int) = (k : Int) := IntWalk.i64_in _ (by have := HDL.out.2.1; have := HDL.out.1; omega)
        have HPS : Hid (Calls Try.prog 104 #[.pointer (some ⟨d, 0, none⟩), .int .i64 (q : Int), .int .i64 (k : Int)] w2 fun e w' => e = .returned (.tuple #[]) ∧ (∃ A c, Dev w' d (L2.slide q A c) ((T.upto (fenceK T i left)).persist q k)) ∧ Ch (fun b => b = L2.pb ∨ b = L2.lb) w2 w') := by
          refine devPersist w2 d L2 (T.upto (fenceK T i left)) HD2'.out q k hql hk1 (by rw [HLN.out]; exact hkl) (fun p hp => ?_)
          rw [HLN.out] at hp
          obtain ⟨m, hm1, hm2⟩ := HDL.out.2.2 p hp
          rw [(length_upto _).1, HG.out.np]
          omega
        have HKK := Lib.hid hk
        clear hk
        go_wp2_with (first | (go_at_call 104; refine HPS.out.mono ?_; rintro e w3 ⟨rfl, ⟨A, c3, hD3⟩, hC3⟩; have HD3 := Lib.hid hD3; have HC3 := Lib.hid hC3; clear hD3 hC3))
        have hfp : ∀ b, b = L2.pb ∨ b = L2.lb → Fp L2 b := by
          rintro b (rfl | rfl)
          · unfold Fp; rw [HD.out.rp]; omega
          · unfold Fp; rw [HD.out.rl]; omega
        have hrr : ¬ (r = L2.pb ∨ r = L2.lb) := fun h => HRN.out r (hfp r h) rfl
        have hrm := HD.out.rm i hi
        rw [HLm.out] at hrm
        have hmm : ¬ (L.m i = L2.pb ∨ L.m i = L2.lb) := by
          rintro (h | h)
          · rw [h, HD.out.rp] at hrm; omega
          · rw [h, HD.out.rl] at hrm; omega
        have hml : L.m i < w2.heap.size := by have := HD2'.out.fr (L.m i) (by rw [hrm]; omega); exact this
        refine ⟨⟨_, _, ranges_keep HRG2.out ?_ ?_, ⟨L2.slide q A c3, HLt.out, HLm.out, HLr.out, ?_⟩, ?_⟩, ?_⟩
        · exact HC3.out.block _ hml hmm
        · exact HC3.out.block r (by have := HRG.out.lt; omega) hrr
        · rw [fenceK_step, HDUE.out]
          have := upto_persist HG.out hN (fenceK T i left) HHL.out hkl HK0.out
          have e9 : (c - dn).toNat = k := by rw [HKK.out]; rfl
          rw [e9, ← this]
          exact HD3.out
        · refine (HCh.out.trans (T := At r) ⟨HG2.out.os, HG2.out.tape, HG2.out.output, HG2.out.size, fun b hb hS => HGB.out b hS⟩ (fun b hb _ => .inr hb)).trans HC3.out (fun b hb _ => .inl ?_)
          have := hfp b hb
          unfold Fp at this ⊢
          rwa [HLr.out] at this
        · have hx := ranges_keep HRG2.out (HC3.out.block _ hml hmm) (HC3.out.block r (by have := HRG.out.lt; omega) hrr)
          rw [hx.left_eq, HLE.out]; exact hlt2
      · go_wp2
        refine ⟨⟨_, _, HRG2.out, ⟨L2, HLt.out, HLm.out, HLr.out, ?_⟩, ?_⟩, ?_⟩
        · rw [fenceK_step, HDUE.out]
          have e9 : (fun j => if j = q then (c - dn).toNat else fenceK T i left j) = fenceK T i left := by
            funext j
            split
            · rename_i hj; subst hj; rw [HK0.out]; omega
            · rfl
          rw [e9]
          exact HD2'.out
        · exact HCh.out.trans (T := At r) ⟨HG2.out.os, HG2.out.tape, HG2.out.output, HG2.out.size, fun b hb hS => HGB.out b hS⟩ (fun b hb _ => .inr hb)
        · rw [HRG2.out.left_eq, HLE.out]; exact hlt2
end Go.Proofs.Ytljolgcmkejlnaa
