/- Format of an epoch clock on a device whose line has stores that are not flushed yet. -/
import Derived.Test.YtljolgcmkejlnaaEpE
namespace Go.Proofs.Ytljolgcmkejlnaa
open Go.RowKit
set_option linter.unusedVariables false

section
variable {F : Nat → Prop} {d : Nat} {t : Nat → Nat} {c : Nat} {w w0 : World} {S : DevS} {i n q : Nat} {xs : List Int} {ws ws0 : List (Int × Int)} {e : Int} {an : Nat → Int} {N : Nat}
theorem Mid.storeBy (h : Mid S i n xs ws [] N) (j : Nat) {k : Nat} (hk : k < 8 * n) (v : Int) : Mid (S.store j (8 * (k : Int)) v) i n xs (ws ++ [(8 * (k : Int), v)]) [] (N + 1) := by
  have e1 := store_ok (i := i) h.off h.armed (k := k) (by rw [h.nl]; exact hk) v
  have e2 := store_ok (i := j) h.off h.armed (k := k) (by rw [h.nl]; exact hk) v
  rw [e2, ← e1]
  exact h.store hk v
theorem Mid.storesP (h : Mid S i n xs ws0 [] N) (hi : i < 8) (vs : List (Int × Int)) (hv : ∀ p ∈ vs, ∃ k : Nat, p.1 = 8 * (k : Int) ∧ k < 8 * n) (h0 : ∀ p ∈ ws0, 0 ≤ p.1 ∧ startOf p.1 ∈ starts vs) (hN : N + (storesP vs).length < 1000000) : Clean (S.runP i (storesP vs)) n (applyW xs (ws0 ++ vs)) (N + (storesP vs).length) := by
  have hl : (Go.Proofs.Ytljolgcmkejlnaa.storesP vs).length = vs.length + (cpt (starts vs)).length + 1 := by simp [Go.Proofs.Ytljolgcmkejlnaa.storesP, insSt, insFl]; omega
  rw [hl] at hN ⊢
  have h1 := Mid.stores hi vs h hv
  have h2 := Mid.flushes hi (cpt (starts vs)) h1 (by omega) (fun l hl => by
    rw [mem_cpt'] at hl
    obtain ⟨p, hp, rfl⟩ := List.mem_map.1 hl
    obtain ⟨k, hk1, hk2⟩ := hv p hp
    refine ⟨k / 8, ?_, by omega⟩
    unfold startOf; omega)
  rw [List.nil_append] at h2
  have h3 := h2.fence hi (by omega) (fun p hp => by
    rw [mem_cpt']
    rcases List.mem_append.1 hp with hp | hp
    · exact h0 p hp
    · obtain ⟨k, hk1, hk2⟩ := hv p hp
      exact ⟨by omega, List.mem_map.2 ⟨p, hp, rfl⟩⟩)
  unfold Go.Proofs.Ytljolgcmkejlnaa.storesP
  rw [runP_append, runP_append]
  rw [show N + (vs.length + (cpt (starts vs)).length + 1) = N + vs.length + (cpt (starts vs)).length + 1 by omega]
  exact h3
theorem runM (h : DV F d t w0 S) (hcl : Mid S i n xs ws0 [] N) (h0 : ∀ p ∈ ws0, 0 ≤ p.1 ∧ startOf p.1 ∈ starts ws) (hb : Below w0.heap.size w0 w) (A : Option Addr) (m cp : Nat) (hm : (storesP ws).length = m) (hS : Sl 110 3 w A m cp (pcells (storesP ws))) (hA : ∀ b, OwnB A b → w0.heap.size ≤ b) (hi : i < 8)
    (hv : ∀ p ∈ ws, ∃ k : Nat, p.1 = 8 * (k : Int) ∧ k < 8 * n) (hn : n ≤ 4096) (hN : N + m < 1000000) :
    Calls Try.prog 45 #[.slice A m cp, .iface 61 (.pointer (some ⟨t i, 0, none⟩))] w fun r w' => r = .returned (.int .i64 0) ∧ (∃ S', DV F d t w' S' ∧ Clean S' n (applyW xs (ws0 ++ ws)) (N + m)) ∧ Ch F w0 w' := by
  subst hm
  have h2 := h.less hb (fun b => OwnB A b) (fun b hb' => ⟨hA b hb', hS.lt hb'⟩)
  have hc2 := hcl.storesP hi ws hv h0 hN
  refine (memRun w h2 i hi hcl.good A _ cp (storesP ws) rfl hS (fun b hb hf => hf.2 hb) hN (fun p hp => ?_)).mono ?_
  · unfold storesP at hp
    simp only [List.mem_append, List.mem_singleton] at hp
    rcases hp with (hp | hp) | hp
    · obtain ⟨p', hp', rfl⟩ := List.mem_map.1 hp
      obtain ⟨k, hk1, hk2⟩ := hv p' hp'
      exact ⟨rfl, by show 0 ≤ p'.1; omega, by show p'.1 < _; omega⟩
    · obtain ⟨l, hl, rfl⟩ := List.mem_map.1 hp
      rw [mem_cpt'] at hl
      obtain ⟨p', hp', rfl⟩ := List.mem_map.1 hl
      obtain ⟨k, hk1, hk2⟩ := hv p' hp'
      exact ⟨rfl, by show 0 ≤ startOf p'.1; unfold startOf; omega, by show startOf p'.1 < _; unfold startOf; omega⟩
    · subst hp
      exact ⟨rfl, Int.le_refl _, by show (0 : Int) < _; omega⟩
  · rintro r w' ⟨rfl, hD, hC⟩
    refine ⟨by rw [hc2.err i], ⟨_, hD.mono (fun b hb => hb.1), hc2⟩, ?_⟩
    exact (Ch.of_below hb).trans hC (fun b hb _ => hb.1)
set_option maxRecDepth 100000 in
set_option maxHeartbeats 2000000 in
theorem ckFormatM (h : DV F d t w S) (hcl : Mid S i n xs ws0 [] N) (h0 : ∀ p ∈ ws0, 0 ≤ p.1 ∧ startOf p.1 = 64 * (q : Int)) (hn : n ≤ 4096) (hq : q < n) (hi : i < 8) (hN : N + 10 < 1000000) :
    Calls Try.prog 25 #[.iface 61 (.pointer (some ⟨t i, 0, none⟩)), .int .i64 (q : Int)] w fun r w' => r = .returned (.int .i64 0) ∧ (∃ S', DV F d t w' S' ∧ Clean S' n (applyW xs (ws0 ++ fmtW q)) (N + 10)) ∧ Ch F w w' := by
  have H := Lib.hid h
  have HCL := Lib.hid hcl
  have H0 : Hid (∀ p ∈ ws0, 0 ≤ p.1 ∧ startOf p.1 ∈ starts (fmtW q)) := fun p hp => ⟨(h0 p hp).1, by rw [starts_fmt, (h0 p hp).2]; simp⟩
  have HSZ : Hid (Calls Try.prog 103 #[.pointer (some ⟨t i, 0, none⟩)] w fun e w' => e = .returned (.int .u64 ((n : Int) * 64)) ∧ w = w') := by
    have := sizeV h i hi
    rwa [hcl.nl] at this
  have HER : Hid (Calls Try.prog 36 #[.pointer (some ⟨t i, 0, none⟩)] w fun e w' => e = .returned (.int .i64 0) ∧ w = w') := by
    have := errV h i hi
    rwa [hcl.err i] at this
  have q1 : IntKind.u64.wrap (q : Int) = (q : Int) := IntWalk.u64_in _ (by omega)
  have q2 : ((n : Int) * 64).tdiv 64 = (n : Int) := by rw [Int.tdiv_eq_ediv_of_nonneg (by omega)]; omega
  have q2' : (n : Int) * 64 / 64 = (n : Int) := by omega
  have q3 : ¬ (n : Int) ≤ (q : Int) := by omega
  have q4 : IntKind.u64.wrap ((q : Int) * 64) = 64 * (q : Int) := by rw [Int.mul_comm]; exact IntWalk.u64_in _ (by omega)
  clear h hcl h0
  go_enter Try.func25, Try.ntmps25
  go_wp2_with (first | (go_at_call 103; refine HSZ.out.mono ?_; rintro e w' ⟨rfl, rfl⟩) | (go_at_call 36; refine HER.out.mono ?_; rintro e w' ⟨rfl, rfl⟩) | (go_at_call 43; refine (ckPack _ 1 (by omega)).mono ?_; rintro e w' ⟨rfl, rfl⟩))
  have HI0 : Hid (FmtInv w q 1 (some ⟨w.heap.size, 0, none⟩) 1 (w.alloc (.cells #[.int .u64 (64 * (q : Int)), .int .u64 (packE 1)] 90))) := by
    refine ⟨?_, bl_alloc (Below.refl _ _) _, fun b hb => ?_⟩
    · have := one_write w (64 * (q : Int)) (packE 1)
      rwa [fmtW_one]
    · have : w.heap.size = b := by simpa [OwnB] using hb
      omega
  obtain ⟨A0, hA0⟩ : ∃ A0 : Option Addr, some (⟨w.heap.size, 0, none⟩ : Addr) = A0 := ⟨_, rfl⟩
  obtain ⟨W, hW⟩ : ∃ W, w.alloc (.cells #[.int .u64 (64 * (q : Int)), .int .u64 (packE 1)] 90) = W := ⟨_, rfl⟩
  have HI1 : Hid (FmtInv w q 1 A0 1 W) := by show FmtInv _ _ _ _ _ _; rw [← hA0, ← hW]; exact HI0.out
  rw [hA0, hW]
  clear hA0 hW HI0
  go_loopw [8, 7, 35, 36, 37, 38, 39, 40, 41, 42, 43, 44, 45, 46] (fun a s _ _ _ _ _ _ _ _ _ _ _ _ wr => ∃ (k : Nat) (A : Option Addr) (cp : Nat), 1 ≤ k ∧ k ≤ 8 ∧ a = .int .u64 k ∧ s = .slice A k cp ∧ FmtInv w q k A cp wr) (fun a _ _ _ _ _ _ _ _ _ _ _ _ _ _ => 8 - (intOf a).toNat)
  case atStart => exact ⟨1, A0, 1, by omega, by omega, rfl, rfl, HI1.out⟩
  case round =>
    clear HI1
    obtain ⟨k, A, cp, hk1, hk, rfl, rfl, hS, hB, hO⟩ := hrel
    have HS := Lib.hid hS
    have HB := Lib.hid hB
    have HO := Lib.hid hO
    clear hS hB hO
    by_cases hlt : k < 8
    · have hlt' : (k : Int) < 8 := by omega
      have r1 : IntKind.u64.wrap ((k : Int) * 8) = 8 * (k : Int) := by rw [Int.mul_comm]; exact IntWalk.u64_in _ (by omega)
      have r2 : IntKind.u64.wrap (64 * (q : Int) + 8 * (k : Int)) = 64 * (q : Int) + 8 * (k : Int) := IntWalk.u64_in _ (by omega)
      have r3 : IntKind.u64.wrap ((k : Int) + 1) = (k : Int) + 1 := IntWalk.u64_in _ (by omega)
      go_wp2_with (at_builtin; refine wpList_append_sl rfl (.tmp 39) (.tmp 45) 91 rfl 90 (.agg #[.int .u64 0, .int .u64 0]) 2 16 rfl (by omega) Try.underlying91 info_write (by omega) A k cp (wcells ((fmtW q).take k)) ⟨wr.heap.size, 0, none⟩ 1 1 [.int .u64 (64 * (q : Int) + 8 * (k : Int)), .int .u64 0] rfl rfl (HS.out.keep (fun b hb => Below.heap_alloc _ _ _ (HS.out.lt hb))) rfl (by omega) (cells_two wr 90 _ _) (wr_one _ _) (by omega) ?_; intro A2 cp2 w2 HO2 HC2 HW2 HG2)
      refine ⟨⟨k + 1, A2, cp2, by omega, by omega, by go_num, rfl, ?_, ?_, ?_⟩, by simp [intOf]; omega⟩
      · rw [fmtW_take q k hk1 hlt, wcells_snoc]; exact HO2.out
      · exact bl_ch (bl_alloc HB.out _) HC2.out (fun b hb => HO.out b hb)
      · intro b hb
        have := HB.out.size
        rcases HW2.out b hb with h | h
        · exact HO.out b h
        · rw [h]; simp; omega
    · obtain rfl : k = 8 := by omega
      have h8 : (fmtW q).take 8 = fmtW q := List.take_of_length_le (by simp [fmtW])
      rw [h8] at HS
      have HFS : Hid (Calls Try.prog 44 #[.slice A 8 cp] wr (StoPost wr (storesP (fmtW q)))) := by
        refine memStores wr A 8 cp (fmtW q) (by simp [fmtW]) (by omega) (by omega) HS.out (fun p hp => ?_) ?_
        · obtain ⟨j, hj, hp1⟩ := fmtW_mem hp
          omega
        · rw [starts_fmt]
          simp [List.replicate]
      clear h8
      go_wp2_with (first | (go_at_call 44; refine HFS.out.mono ?_; rintro r w2 ⟨A2, cp2, rfl, hS2, hB2, hO2⟩; rw [storesP_fmt] at hS2 ⊢; have HS2 := Lib.hid hS2; have HB2 : Hid (Below w.heap.size w w2) := HB.out.trans (hB2.mono HB.out.size); have HO2 := Lib.hid hO2; clear hS2 hB2 hO2) | (go_at_call 45; refine (runM H.out HCL.out H0.out HB2.out A2 10 cp2 (storesP_fmt q) HS2.out (fun b hb => by have := HO2.out b hb; have h3 := HB.out.size; omega) hi (fun p hp => by obtain ⟨j, hj, hp1⟩ := fmtW_mem hp; exact ⟨8 * q + j, by omega, by omega⟩) hn hN).mono ?_; rintro r w3 ⟨rfl, ⟨S3, hD3, hC3⟩, hCh3⟩; have HD3 := Lib.hid hD3; have HC3 := Lib.hid hC3; have HCh3 := Lib.hid hCh3; clear hD3 hC3 hCh3))
      go_ret
      exact ⟨rfl, ⟨S3, HD3.out, HC3.out⟩, HCh3.out⟩
end
end Go.Proofs.Ytljolgcmkejlnaa
