/- Contracts of Format and Open of an epoch clock. -/
import Derived.Test.YtljolgcmkejlnaaEpB
namespace Go.Proofs.Ytljolgcmkejlnaa
open Go.RowKit
set_option linter.unusedVariables false

theorem Clean.mono {S : DevS} {n N M : Nat} {xs : List Int} (h : Clean S n xs N) (hM : N ≤ M) : Clean S n xs M := ⟨h.good.mono hM, h.nl, h.cur, h.pers, h.off, h.armed, h.hist, h.err, h.notes⟩
/-- The writes of Format. -/
def fmtW (q : Nat) : List (Int × Int) := (List.range 8).map fun (j : Nat) => (64 * (q : Int) + 8 * (j : Int), if j = 0 then packE 1 else 0)
theorem fmtW_mem {q : Nat} {p : Int × Int} (h : p ∈ fmtW q) : ∃ j : Nat, j < 8 ∧ p.1 = 64 * (q : Int) + 8 * (j : Int) := by
  obtain ⟨j, hj, rfl⟩ := List.mem_map.1 h
  exact ⟨j, by simpa using hj, rfl⟩
theorem starts_fmt (q : Nat) : starts (fmtW q) = List.replicate 8 (64 * (q : Int)) := by
  apply List.eq_replicate_iff.2
  refine ⟨by simp [starts, fmtW], fun b hb => ?_⟩
  obtain ⟨p, hp, rfl⟩ := List.mem_map.1 hb
  obtain ⟨j, hj, hp1⟩ := fmtW_mem hp
  rw [hp1]; unfold startOf; omega
theorem storesP_fmt (q : Nat) : (storesP (fmtW q)).length = 10 := by
  have : cpt (starts (fmtW q)) = [64 * (q : Int)] := by
    rw [starts_fmt]
    simp [cpt, List.replicate]
  have h8 : (fmtW q).length = 8 := by simp [fmtW]
  simp only [storesP, insSt, insFl, this, List.length_append, List.length_map, h8]; rfl
/-- The words after Format. -/
theorem fmt_words (xs : List Int) (n q : Nat) (hx : xs.length = 8 * n) (hq : q < n) : ∀ j, (applyW xs (fmtW q))[j]? = if j = 8 * q then some (packE 1) else if j / 8 = q then some 0 else xs[j]? := by
  intro j
  have e : fmtW q = [(64 * (q : Int), packE 1), (64 * (q : Int) + 8, 0), (64 * (q : Int) + 16, 0), (64 * (q : Int) + 24, 0), (64 * (q : Int) + 32, 0), (64 * (q : Int) + 40, 0), (64 * (q : Int) + 48, 0), (64 * (q : Int) + 56, 0)] := by
    simp [fmtW, List.range, List.range.loop]
  rw [e]
  simp only [applyW, List.foldl_cons, List.foldl_nil]
  have h0 : (64 * (q : Int) / 8).toNat = 8 * q := by omega
  have h1 : ((64 * (q : Int) + 8) / 8).toNat = 8 * q + 1 := by omega
  have h2 : ((64 * (q : Int) + 16) / 8).toNat = 8 * q + 2 := by omega
  have h3 : ((64 * (q : Int) + 24) / 8).toNat = 8 * q + 3 := by omega
  have h4 : ((64 * (q : Int) + 32) / 8).toNat = 8 * q + 4 := by omega
  have h5 : ((64 * (q : Int) + 40) / 8).toNat = 8 * q + 5 := by omega
  have h6 : ((64 * (q : Int) + 48) / 8).toNat = 8 * q + 6 := by omega
  have h7 : ((64 * (q : Int) + 56) / 8).toNat = 8 * q + 7 := by omega
  rw [h0, h1, h2, h3, h4, h5, h6, h7]
  simp only [List.getElem?_set, List.length_set, hx]
  have hb : 8 * q + 7 < 8 * n := by omega
  by_cases hj : j / 8 = q
  · have : j = 8 * q ∨ j = 8 * q + 1 ∨ j = 8 * q + 2 ∨ j = 8 * q + 3 ∨ j = 8 * q + 4 ∨ j = 8 * q + 5 ∨ j = 8 * q + 6 ∨ j = 8 * q + 7 := by omega
    rcases this with rfl | rfl | rfl | rfl | rfl | rfl | rfl | rfl <;> (repeat (first | rw [if_pos rfl] | rw [if_neg (by omega)] | rw [if_pos (by omega)]))
  · rw [if_neg (by omega), if_neg (by omega), if_neg (by omega), if_neg (by omega), if_neg (by omega), if_neg (by omega), if_neg (by omega), if_neg (by omega), if_neg (by omega), if_neg hj]

theorem fmtW_one (q : Nat) : (fmtW q).take 1 = [(64 * (q : Int), packE 1)] := by simp [fmtW, List.range, List.range.loop]
theorem fmtW_take (q k : Nat) (h1 : 1 ≤ k) (hk : k < 8) : (fmtW q).take (k + 1) = (fmtW q).take k ++ [(64 * (q : Int) + 8 * (k : Int), 0)] := by
  have hl : k < (fmtW q).length := by simpa [fmtW] using hk
  rw [List.take_succ_eq_append_getElem hl]
  congr 2
  simp [fmtW]; omega
theorem wr_one (a b : Int) : ∀ u ∈ ([.int .u64 a, .int .u64 b] : List Value), u.oneCell' = true := by
  intro u hu
  simp only [List.mem_cons, List.not_mem_nil, or_false] at hu
  rcases hu with rfl | rfl <;> rfl
/-- Format's loop. -/
def FmtInv (w : World) (q k : Nat) (A : Option Addr) (cp : Nat) (wr : World) : Prop :=
  Sl 90 2 wr A k cp (wcells ((fmtW q).take k)) ∧ Below w.heap.size w wr ∧ ∀ b, OwnB A b → w.heap.size ≤ b
section
variable {F : Nat → Prop} {d : Nat} {t : Nat → Nat} {c : Nat} {w w0 : World} {S : DevS} {n q : Nat} {xs : List Int} {e : Int} {an : Nat → Int} {N : Nat}
theorem sizeV (h : DV F d t w S) (i : Nat) (hi : i < 8) : Calls Try.prog 103 #[.pointer (some ⟨t i, 0, none⟩)] w fun e w' => e = .returned (.int .u64 ((S.lns.length : Int) * 64)) ∧ w = w' := by
  obtain ⟨_, L, rfl, h3, _⟩ := h
  exact thSize w d L S h3 i hi
theorem linesV (h : DV F d t w S) : Calls Try.prog 41 #[.pointer (some ⟨d, 0, none⟩)] w fun e w' => e = .returned (.int .i64 (S.lns.length : Int)) ∧ w = w' := by
  obtain ⟨_, L, rfl, h3, _⟩ := h
  exact devLines w d L S h3
set_option maxRecDepth 100000 in
set_option maxHeartbeats 2000000 in
theorem ckFormat (h : DV F d t w S) (hcl : Clean S n xs N) (hn : n ≤ 4096) (hq : q < n) (i : Nat) (hi : i < 8) (hN : N + 10 < 1000000) :
    Calls Try.prog 25 #[.iface 61 (.pointer (some ⟨t i, 0, none⟩)), .int .i64 (q : Int)] w fun r w' => r = .returned (.int .i64 0) ∧ (∃ S', DV F d t w' S' ∧ Clean S' n (applyW xs (fmtW q)) (N + 10)) ∧ Ch F w w' := by
  have H := Lib.hid h
  have HCL := Lib.hid hcl
  have HSZ : Hid (Calls Try.prog 103 #[.pointer (some ⟨t i, 0, none⟩)] w fun e w' => e = .returned (.int .u64 ((n : Int) * 64)) ∧ w = w') := by
    have := sizeV h i hi
    rwa [hcl.nl] at this
  have HER : Hid (Calls Try.prog 36 #[.pointer (some ⟨t i, 0, none⟩)] w fun e w' => e = .returned (.int .i64 0) ∧ w = w') := by
    have := errV h i hi
    rwa [hcl.err i] at this
  have q1 : IntKind.u64.wrap (q : Int) = (q : Int) := IntWalk.u64_in _ (by omega)
  have q2 : ((n : Int) * 64).tdiv 64 = (n : Int) := by rw [Int.tdiv_eq_ediv_of_nonneg (by omega)]; omega
  have q2' : (n : Int) * 64 / 64 = (n : Int) := by omega
  have q3 : ¬ (n : Int) ≤ (q : Int) := by omega
  have q4 : IntKind.u64.wrap ((q : Int) * 64) = 64 * (q : Int) := by rw [Int.mul_comm]; exact IntWalk.u64_in _ (by omega)
  clear h hcl
  go_enter Try.func25, Try.ntmps25
  go_wp2_with (first | (go_at_call 103; refine HSZ.out.mono ?_; rintro e w' ⟨rfl, rfl⟩) | (go_at_call 36; refine HER.out.mono ?_; rintro e w' ⟨rfl, rfl⟩) | (go_at_call 43; refine (ckPack _ 1 (by omega)).mono ?_; rintro e w' ⟨rfl, rfl⟩))
  have HI0 : Hid (FmtInv w q 1 (some ⟨w.heap.size, 0, none⟩) 1 (w.alloc (.cells #[.int .u64 (64 * (q : Int)), .int .u64 (packE 1)] 90))) := by
    refine ⟨?_, bl_alloc (Below.refl _ _) _, fun b hb => ?_⟩
    · have := one_write w (64 * (q : Int)) (packE 1)
      rwa [fmtW_one]
    · have : w.heap.size = b := by simpa [OwnB] using hb
      omega
  obtain ⟨A0, hA0⟩ : ∃ A0 : Option Addr, some (⟨w.heap.size, 0, none⟩ : Addr) = A0 := ⟨_, rfl⟩
  obtain ⟨W, hW⟩ : ∃ W, w.alloc (.cells #[.int .u64 (64 * (q : Int)), .int .u64 (packE 1)] 90) = W := ⟨_, rfl⟩
  have HI1 : Hid (FmtInv w q 1 A0 1 W) := by show FmtInv _ _ _ _ _ _; rw [← hA0, ← hW]; exact HI0.out
  rw [hA0, hW]
  clear hA0 hW HI0
  go_loopw [8, 7, 35, 36, 37, 38, 39, 40, 41, 42, 43, 44, 45, 46] (fun a s _ _ _ _ _ _ _ _ _ _ _ _ wr => ∃ (k : Nat) (A : Option Addr) (cp : Nat), 1 ≤ k ∧ k ≤ 8 ∧ a = .int .u64 k ∧ s = .slice A k cp ∧ FmtInv w q k A cp wr) (fun a _ _ _ _ _ _ _ _ _ _ _ _ _ _ => 8 - (intOf a).toNat)
  case atStart => exact ⟨1, A0, 1, by omega, by omega, rfl, rfl, HI1.out⟩
  case round =>
    clear HI1
    obtain ⟨k, A, cp, hk1, hk, rfl, rfl, hS, hB, hO⟩ := hrel
    have HS := Lib.hid hS
    have HB := Lib.hid hB
    have HO := Lib.hid hO
    clear hS hB hO
    by_cases hlt : k < 8
    · have hlt' : (k : Int) < 8 := by omega
      have r1 : IntKind.u64.wrap ((k : Int) * 8) = 8 * (k : Int) := by rw [Int.mul_comm]; exact IntWalk.u64_in _ (by omega)
      have r2 : IntKind.u64.wrap (64 * (q : Int) + 8 * (k : Int)) = 64 * (q : Int) + 8 * (k : Int) := IntWalk.u64_in _ (by omega)
      have r3 : IntKind.u64.wrap ((k : Int) + 1) = (k : Int) + 1 := IntWalk.u64_in _ (by omega)
      go_wp2_with (at_builtin; refine wpList_append_sl rfl (.tmp 39) (.tmp 45) 91 rfl 90 (.agg #[.int .u64 0, .int .u64 0]) 2 16 rfl (by omega) Try.underlying91 info_write (by omega) A k cp (wcells ((fmtW q).take k)) ⟨wr.heap.size, 0, none⟩ 1 1 [.int .u64 (64 * (q : Int) + 8 * (k : Int)), .int .u64 0] rfl rfl (HS.out.keep (fun b hb => Below.heap_alloc _ _ _ (HS.out.lt hb))) rfl (by omega) (cells_two wr 90 _ _) (wr_one _ _) (by omega) ?_; intro A2 cp2 w2 HO2 HC2 HW2 HG2)
      refine ⟨⟨k + 1, A2, cp2, by omega, by omega, by go_num, rfl, ?_, ?_, ?_⟩, by simp [intOf]; omega⟩
      · rw [fmtW_take q k hk1 hlt, wcells_snoc]; exact HO2.out
      · exact bl_ch (bl_alloc HB.out _) HC2.out (fun b hb => HO.out b hb)
      · intro b hb
        have := HB.out.size
        rcases HW2.out b hb with h | h
        · exact HO.out b h
        · rw [h]; simp; omega
    · obtain rfl : k = 8 := by omega
      have h8 : (fmtW q).take 8 = fmtW q := List.take_of_length_le (by simp [fmtW])
      rw [h8] at HS
      have HFS : Hid (Calls Try.prog 44 #[.slice A 8 cp] wr (StoPost wr (storesP (fmtW q)))) := by
        refine memStores wr A 8 cp (fmtW q) (by simp [fmtW]) (by omega) (by omega) HS.out (fun p hp => ?_) ?_
        · obtain ⟨j, hj, hp1⟩ := fmtW_mem hp
          omega
        · rw [starts_fmt]
          simp [List.replicate]
      clear h8
      go_wp2_with (first | (go_at_call 44; refine HFS.out.mono ?_; rintro r w2 ⟨A2, cp2, rfl, hS2, hB2, hO2⟩; rw [storesP_fmt] at hS2 ⊢; have HS2 := Lib.hid hS2; have HB2 : Hid (Below w.heap.size w w2) := HB.out.trans (hB2.mono HB.out.size); have HO2 := Lib.hid hO2; clear hS2 hB2 hO2) | (go_at_call 45; refine (runV H.out HCL.out HB2.out A2 10 cp2 (fmtW q) (storesP_fmt q) HS2.out (fun b hb => by have := HO2.out b hb; have h3 := HB.out.size; omega) i hi (fun p hp => by obtain ⟨j, hj, hp1⟩ := fmtW_mem hp; exact ⟨8 * q + j, by omega, by omega⟩) hn hN).mono ?_; rintro r w3 ⟨rfl, ⟨S3, hD3, hC3⟩, hCh3⟩; have HD3 := Lib.hid hD3; have HC3 := Lib.hid hC3; have HCh3 := Lib.hid hCh3; clear hD3 hC3 hCh3))
      go_ret
      exact ⟨rfl, ⟨S3, HD3.out, HC3.out⟩, HCh3.out⟩

/-- What Open leaves. -/
def OpenPost (F : Nat → Prop) (d : Nat) (t : Nat → Nat) (n q : Nat) (xs : List Int) (e : Int) (N : Nat) (w : World) (r : Ending) (w' : World) : Prop :=
  ∃ c S', r = .returned (.tuple #[.pointer (some ⟨c, 0, none⟩), .int .i64 0]) ∧ Ep (fun b => F b ∧ b ≠ c) d t c w' S' n q (xs.set (8 * q) (packE (e + 1))) (e + 1) (fun _ => 0) (N + 3) ∧ w.heap.size ≤ c ∧ Ch F w w'
set_option maxRecDepth 100000 in
set_option maxHeartbeats 2000000 in
theorem ckOpen (h : DV F d t w S) (hcl : Clean S n xs N) (hn : n ≤ 4096) (hq : q < n) (hx : xs.length = 8 * n) (hw : xs[8 * q]? = some (packE e)) (he : 1 ≤ e ∧ e < 2147483647) (hz : ∀ j, 1 ≤ j → j < 8 → xs[8 * q + j]? = some 0) (hN : N + 3 < 1000000) :
    Calls Try.prog 24 #[.pointer (some ⟨d, 0, none⟩), .int .i64 (q : Int)] w (OpenPost F d t n q xs e N w) := by
  have HLN : Hid (Calls Try.prog 41 #[.pointer (some ⟨d, 0, none⟩)] w fun e w' => e = .returned (.int .i64 (n : Int)) ∧ w = w') := by
    have := linesV h
    rwa [hcl.nl] at this
  have HT := Lib.hid (threadV h 0 (by omega))
  have HER : Hid (Calls Try.prog 36 #[.pointer (some ⟨t 0, 0, none⟩)] w fun e w' => e = .returned (.int .i64 0) ∧ w = w') := by
    have := errV h 0 (by omega)
    rwa [hcl.err 0] at this
  have H := Lib.hid h
  have HCL := Lib.hid hcl
  have HZ := Lib.hid hz
  have HW := Lib.hid hw
  have HX := Lib.hid hx
  have q0 : decide ((q : Int) < 0) = false := decide_eq_false (by omega)
  have q1 : IntKind.u64.wrap (q : Int) = (q : Int) := IntWalk.u64_in _ (by omega)
  have q3 : ¬ (n : Int) ≤ (q : Int) := by omega
  have q4 : IntKind.u64.wrap ((q : Int) * 64) = 64 * (q : Int) := by rw [Int.mul_comm]; exact IntWalk.u64_in _ (by omega)
  have hck : Clk (w.alloc (.cells (clkCells d (64 * (q : Int)) 0 (fun _ => 0)) 75)) w.heap.size d (64 * (q : Int)) 0 (fun _ => 0) := CB.new _ _ _
  have HPR := Lib.hid (ckPresent (h.alloc (.cells (clkCells d (64 * (q : Int)) 0 (fun _ => 0)) 75)) hcl hck hn hq 0 (by omega) e hw (by omega))
  have HCK := Lib.hid hck
  clear h hcl hz hw hx hck
  go_enter Try.func24, Try.ntmps24
  go_wp2_with (first | (go_at_call 41; refine HLN.out.mono ?_; rintro e w' ⟨rfl, rfl⟩) | (go_at_call 26; refine HT.out.mono ?_; rintro e w' ⟨rfl, rfl⟩) | (go_at_call 36; refine HER.out.mono ?_; rintro e w' ⟨rfl, rfl⟩) | (go_at_call 37; refine HPR.out.mono ?_; rintro e w' ⟨rfl, rfl⟩))
  have hDF : DV (fun b => F b ∧ ¬ b = w.heap.size) d t (w.alloc (.cells (clkCells d (64 * (q : Int)) 0 (fun _ => 0)) 75)) S := H.out.less (bl_alloc (Below.refl _ _) _) (fun b => b = w.heap.size) (fun b hb => ⟨by omega, by rw [hb]; simp⟩)
  have hB0 : Ch F w (w.alloc (.cells (clkCells d (64 * (q : Int)) 0 (fun _ => 0)) 75)) := (Ch.refl _ _).alloc _
  obtain ⟨c, hc⟩ : ∃ c, w.heap.size = c := ⟨_, rfl⟩
  obtain ⟨W, hW⟩ : ∃ W, w.alloc (.cells (clkCells d (64 * (q : Int)) 0 (fun _ => 0)) 75) = W := ⟨_, rfl⟩
  rw [hc, hW] at hDF HCK
  rw [hW] at hB0
  have hwc : w.heap.size ≤ c := by omega
  rw [hc, hW]
  have c1 := HCK.out.c1
  have hl := HCK.out.lt
  have HDF := Lib.hid hDF
  have HB0 := Lib.hid hB0
  have he1 : (e == 2147483647) = false := by simp; omega
  have he2 : IntKind.u64.wrap (e + 1) = e + 1 := IntWalk.u64_in _ (by omega)
  clear hDF hB0 hc hW H HPR HER HT HLN
  go_loopw [11, 47, 48, 49, 50, 51, 52, 53, 54, 55, 56, 57, 58, 59, 60] (fun a _ _ _ _ _ _ _ _ _ _ _ _ _ _ wr => ∃ k : Nat, 1 ≤ k ∧ k ≤ 8 ∧ a = .int .u64 k ∧ wr = W) (fun a _ _ _ _ _ _ _ _ _ _ _ _ _ _ _ => 8 - (intOf a).toNat)
  case atStart => exact ⟨1, by omega, by omega, rfl, rfl⟩
  case round =>
    obtain ⟨k, hk1, hk, rfl, rfl⟩ := hrel
    by_cases hlt : k < 8
    · have hlt' : (k : Int) < 8 := by omega
      have r1 : IntKind.u64.wrap ((k : Int) * 8) = 8 * (k : Int) := by rw [Int.mul_comm]; exact IntWalk.u64_in _ (by omega)
      have r2 : IntKind.u64.wrap (64 * (q : Int) + 8 * (k : Int)) = 64 * (q : Int) + 8 * (k : Int) := IntWalk.u64_in _ (by omega)
      have r3 : IntKind.u64.wrap ((k : Int) + 1) = (k : Int) + 1 := IntWalk.u64_in _ (by omega)
      have HLD : Hid (Calls Try.prog 42 #[.pointer (some ⟨t 0, 0, none⟩), .int .u64 (64 * (q : Int) + 8 * (k : Int))] wr fun e w' => e = .returned (.int .u64 0) ∧ wr = w') := by
        have := loadV HDF.out 0 (by omega) HCL.out.off (8 * q + k) 0 (by rw [HCL.out.cur]; exact HZ.out k hk1 hlt)
        rwa [show (8 * ((8 * q + k : Nat) : Int)) = 64 * (q : Int) + 8 * (k : Int) by omega] at this
      go_wp2_with (go_at_call 42; refine HLD.out.mono ?_; rintro e w' ⟨rfl, rfl⟩)
      exact ⟨⟨k + 1, by omega, by omega, by go_num, by first | rfl | trivial⟩, by simp [intOf]; omega⟩
    · obtain rfl : k = 8 := by omega
      have HBG := Lib.hid (ckBegin HDF.out HCL.out HCK.out (fun h => h.2 rfl) hn hq 0 (by omega) (e + 1) (by omega) hN)
      go_wp2_with (go_at_call 39; refine HBG.out.mono ?_; rintro r w3 ⟨rfl, ⟨S3, hD3, hC3⟩, hK3, hCh3⟩; have HD3 := Lib.hid hD3; have HC3 := Lib.hid hC3; have HK3 := Lib.hid hK3; have HCh3 := Lib.hid hCh3; clear hD3 hC3 hK3 hCh3)
      go_ret2
      refine ⟨c, S3, rfl, ⟨HD3.out, HC3.out, HK3.out, fun h => h.2 rfl, hq, hn, ?_, by omega⟩, hwc, ?_⟩
      · rw [List.getElem?_set, if_pos rfl, if_pos (by rw [HX.out]; omega)]
      · refine HB0.out.trans HCh3.out (fun b hb hlt => ?_)
        rcases hb with h | h
        · exact h.1
        · omega
end
set_option maxRecDepth 100000 in
theorem ckOpen_nil (w : World) (z : Int) : Calls Try.prog 24 #[.pointer none, .int .i64 z] w fun r w' => r = .returned (.tuple #[.pointer none, .int .i64 1]) ∧ w = w' := by
  go_enter Try.func24, Try.ntmps24
  go_wp2
  go_ret2
  exact ⟨rfl, rfl⟩
section
variable {F : Nat → Prop} {d : Nat} {t : Nat → Nat} {c : Nat} {w w0 : World} {S : DevS} {n q : Nat} {xs : List Int} {e : Int} {an : Nat → Int} {N : Nat}
set_option maxRecDepth 100000 in
set_option maxHeartbeats 1000000 in
theorem ckOpen_out (h : DV F d t w S) (hcl : Clean S n xs N) (z : Int) (hz : z < 0 ∨ (n : Int) ≤ z) :
    Calls Try.prog 24 #[.pointer (some ⟨d, 0, none⟩), .int .i64 z] w fun r w' => r = .returned (.tuple #[.pointer none, .int .i64 1]) ∧ w = w' := by
  have HLN : Hid (Calls Try.prog 41 #[.pointer (some ⟨d, 0, none⟩)] w fun e w' => e = .returned (.int .i64 (n : Int)) ∧ w = w') := by
    have := linesV h
    rwa [hcl.nl] at this
  clear h hcl
  rcases hz with hz | hz
  · go_enter Try.func24, Try.ntmps24
    go_wp2_with (first | (go_at_call 41; refine HLN.out.mono ?_; rintro e w' ⟨rfl, rfl⟩))
    go_ret2
    exact ⟨rfl, rfl⟩
  · have h0 : ¬ z < 0 := by omega
    go_enter Try.func24, Try.ntmps24
    go_wp2_with (first | (go_at_call 41; refine HLN.out.mono ?_; rintro e w' ⟨rfl, rfl⟩))
    go_ret2
    exact ⟨rfl, rfl⟩
set_option maxRecDepth 100000 in
set_option maxHeartbeats 1000000 in
/-- Open of a line of zeros. -/
theorem ckOpen_zero (h : DV F d t w S) (hcl : Clean S n xs N) (hn : n ≤ 4096) (hq : q < n) (hw : xs[8 * q]? = some 0) :
    Calls Try.prog 24 #[.pointer (some ⟨d, 0, none⟩), .int .i64 (q : Int)] w fun r w' => r = .returned (.tuple #[.pointer none, .int .i64 11]) ∧ Below w.heap.size w w' := by
  have HLN : Hid (Calls Try.prog 41 #[.pointer (some ⟨d, 0, none⟩)] w fun e w' => e = .returned (.int .i64 (n : Int)) ∧ w = w') := by
    have := linesV h
    rwa [hcl.nl] at this
  have HT := Lib.hid (threadV h 0 (by omega))
  have HER : Hid (Calls Try.prog 36 #[.pointer (some ⟨t 0, 0, none⟩)] w fun e w' => e = .returned (.int .i64 0) ∧ w = w') := by
    have := errV h 0 (by omega)
    rwa [hcl.err 0] at this
  have q0 : decide ((q : Int) < 0) = false := decide_eq_false (by omega)
  have q1 : IntKind.u64.wrap (q : Int) = (q : Int) := IntWalk.u64_in _ (by omega)
  have q3 : ¬ (n : Int) ≤ (q : Int) := by omega
  have q4 : IntKind.u64.wrap ((q : Int) * 64) = 64 * (q : Int) := by rw [Int.mul_comm]; exact IntWalk.u64_in _ (by omega)
  have hck : Clk (w.alloc (.cells (clkCells d (64 * (q : Int)) 0 (fun _ => 0)) 75)) w.heap.size d (64 * (q : Int)) 0 (fun _ => 0) := CB.new _ _ _
  have HPR := Lib.hid (ckPresent_zero (h.alloc (.cells (clkCells d (64 * (q : Int)) 0 (fun _ => 0)) 75)) hcl hck hn hq 0 (by omega) hw)
  clear h hcl hw hck
  go_enter Try.func24, Try.ntmps24
  go_wp2_with (first | (go_at_call 41; refine HLN.out.mono ?_; rintro e w' ⟨rfl, rfl⟩) | (go_at_call 26; refine HT.out.mono ?_; rintro e w' ⟨rfl, rfl⟩) | (go_at_call 36; refine HER.out.mono ?_; rintro e w' ⟨rfl, rfl⟩) | (go_at_call 37; refine HPR.out.mono ?_; rintro e w' ⟨rfl, rfl⟩))
  go_ret2
  exact ⟨rfl, bl_alloc (Below.refl _ _) _⟩
end
end Go.Proofs.Ytljolgcmkejlnaa
