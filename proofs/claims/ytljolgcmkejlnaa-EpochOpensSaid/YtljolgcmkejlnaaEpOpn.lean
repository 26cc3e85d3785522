/- The law EpochOpens returns true. -/
import Derived.Test.YtljolgcmkejlnaaEpFmt
import Derived.Test.YtljolgcmkejlnaaEpSame
import Derived.Test.YtljolgcmkejlnaaCrF
namespace Go.Proofs.Ytljolgcmkejlnaa
open Go.RowKit
set_option linter.unusedVariables false

section
variable {F : Nat → Prop} {d : Nat} {t : Nat → Nat} {w : World} {S : DevS} {n N : Nat} {xs : List Int}
set_option maxRecDepth 100000 in
set_option maxHeartbeats 1000000 in
theorem ckFormat_out (h : DV F d t w S) (hcl : Clean S n xs N) (hn : n ≤ 4096) (i : Nat) (hi : i < 8) (z : Int) (hzr : -9223372036854775808 ≤ z ∧ z < 9223372036854775808) (hz : z < 0 ∨ (n : Int) ≤ z) :
    Calls Try.prog 25 #[.iface 61 (.pointer (some ⟨t i, 0, none⟩)), .int .i64 z] w fun r w' => r = .returned (.int .i64 1) ∧ w = w' := by
  have HSZ : Hid (Calls Try.prog 103 #[.pointer (some ⟨t i, 0, none⟩)] w fun e w' => e = .returned (.int .u64 ((n : Int) * 64)) ∧ w = w') := by
    have := sizeV h i hi
    rwa [hcl.nl] at this
  have q2 : ((n : Int) * 64).tdiv 64 = (n : Int) := by rw [Int.tdiv_eq_ediv_of_nonneg (by omega)]; omega
  have q2' : (n : Int) * 64 / 64 = (n : Int) := by omega
  clear h hcl
  by_cases h0 : z < 0
  · go_enter Try.func25, Try.ntmps25
    go_wp2
    go_ret
    exact ⟨rfl, rfl⟩
  · have q1 : IntKind.u64.wrap z = z := IntWalk.u64_in _ (by omega)
    have q3 : (n : Int) ≤ z := by omega
    clear hz
    go_enter Try.func25, Try.ntmps25
    go_wp2_with (first | (go_at_call 103; refine HSZ.out.mono ?_; rintro e w' ⟨rfl, rfl⟩))
    go_ret
    exact ⟨rfl, rfl⟩
theorem Clean.upto (h : Clean S n xs N) (K : Nat → Nat) (hK : ∀ q l, S.lns[q]? = some l → K q ≤ l.hist.length) : (S.upto K).pers = xs := by
  rw [← h.pers]
  apply List.ext_getElem?
  intro j
  by_cases hj : j < S.pers.length
  · rw [upto_pers _ j hj]
    have h0 : (((S.lns[j / 8]?.map (·.hist)).getD []).take (K (j / 8))) = [] := by
      cases hl : S.lns[j / 8]? with
      | none => simp
      | some l => simp [h.hist _ l hl]
    rw [h0]
    rfl
  · rw [List.getElem?_eq_none (by rw [(length_upto _).1]; omega), List.getElem?_eq_none (by omega)]
end
/-- The stores of EpochOpens. -/
def opnW (q : Nat) (bs : List Int) (k : Nat) : List (Int × Int) := (List.range k).map fun j => (8 * ((8 * q + j : Nat) : Int), bs[8 * j]?.getD 0)
theorem opnW_step (q : Nat) (bs : List Int) (k : Nat) : opnW q bs (k + 1) = opnW q bs k ++ [(8 * ((8 * q + k : Nat) : Int), bs[8 * k]?.getD 0)] := by simp [opnW, List.range_succ]
theorem opnW_mem {q : Nat} {bs : List Int} {k : Nat} (hk : k ≤ 8) : ∀ p ∈ opnW q bs k, 0 ≤ p.1 ∧ startOf p.1 = 64 * (q : Int) := by
  intro p hp
  obtain ⟨j, hj, rfl⟩ := List.mem_map.1 hp
  have hj : j < k := by simpa using hj
  refine ⟨by show 0 ≤ 8 * ((8 * q + j : Nat) : Int); omega, ?_⟩
  show startOf (8 * ((8 * q + j : Nat) : Int)) = _
  unfold startOf
  omega
theorem opnW_fits {q : Nat} {bs : List Int} {k : Nat} (hb : ∀ x ∈ bs, 0 ≤ x ∧ x < 256) : ∀ p ∈ opnW q bs k, 0 ≤ p.2 ∧ p.2 < 18446744073709551616 := by
  intro p hp
  obtain ⟨j, hj, rfl⟩ := List.mem_map.1 hp
  by_cases h : 8 * j < bs.length
  · have := hb _ (List.getElem_mem h)
    simp only [List.getElem?_eq_getElem h, Option.getD_some]
    omega
  · simp only [List.getElem?_eq_none (show bs.length ≤ 8 * j by omega), Option.getD_none]
    omega
theorem fmtW_fits (q : Nat) : ∀ p ∈ fmtW q, 0 ≤ p.2 ∧ p.2 < 18446744073709551616 := by
  intro p hp
  obtain ⟨j, hj, rfl⟩ := List.mem_map.1 hp
  simp only
  split
  · exact packE_range (by omega)
  · omega
theorem applyW_fits (ws : List (Int × Int)) (hw : ∀ p ∈ ws, 0 ≤ p.2 ∧ p.2 < 18446744073709551616) : ∀ xs, Fits xs → Fits (applyW xs ws) := by
  induction ws with
  | nil => intro xs h; exact h
  | cons p ws ih =>
    intro xs h
    refine ih (fun q hq => hw q (List.mem_cons_of_mem _ hq)) _ fun x hx => ?_
    rcases List.mem_or_eq_of_mem_set hx with h1 | h1
    · exact h x h1
    · rw [h1]; exact hw p List.mem_cons_self
theorem applyW_append (xs : List Int) (ws vs : List (Int × Int)) : applyW xs (ws ++ vs) = applyW (applyW xs ws) vs := by simp [applyW]
set_option maxRecDepth 100000 in
set_option maxHeartbeats 4000000 in
theorem law_EpochOpens (w : World) (z : Int) (hz : -9223372036854775808 ≤ z ∧ z < 9223372036854775808) (A : Option Addr) (m cp : Nat) (bs : List Int) (hm : bs.length = m) (hmb : m ≤ 9223372036854775807) (hR : Rd .u8 w A bs) (hbs : ∀ x ∈ bs, 0 ≤ x ∧ x < 256) :
    Calls Try.prog 7 #[.int .i64 z, .slice A m cp] w fun r w' => r = .returned (.bool true) ∧ Below w.heap.size w w' := by
  have HM := Lib.hid hm
  have HR := Lib.hid hR
  have HBS := Lib.hid hbs
  clear hm hR hbs
  go_enter Try.func7, Try.ntmps7
  go_upto_region 4 with (go_at_call 10; refine (awake18 _).mono ?_; rintro r w2 ⟨rfl, hb2⟩; obtain ⟨x, rfl⟩ := bx_of hb2; clear hb2)
  obtain ⟨v, hv⟩ : ∃ v, imin (imax z (-2)) 6 = v := ⟨_, rfl⟩
  have hvr : -2 ≤ v ∧ v ≤ 6 := by have h1 := imin_cases (imax z (-2)) 6; have h2 := imax_cases z (-2); omega
  rw [hv]
  clear hv
  go_upto_region 10 with (first
    | (go_at_call 23; refine (devNew _ 4 (by omega) (by omega)).mono ?_; rintro e w1 ⟨d, L, rfl, hD, hb, hF⟩; have HB := Lib.hid hb; have HV : Hid (DV (fun b => w.heap.size ≤ b) d L.t w1 (newS (List.replicate (8 * 4) 0) 4)) := ⟨(fun b hb' => by have h1 := hb.size; have h2 := x.size; omega), L, rfl, hD, (fun b hb' => by have h1 := hF b hb'; have h2 := x.size; omega)⟩; clear hb hD hF)
    | (go_at_call 24; refine (ckOpen_nil _ 0).mono ?_; rintro e w' ⟨rfl, rfl⟩))
  have hcl := new_clean (List.replicate (8 * 4) 0) 4 (by simp)
  have hB1 : Below w.heap.size w w1 := x.below.trans (HB.out.mono x.size)
  obtain ⟨S0, hS0⟩ : ∃ S0, newS (List.replicate (8 * 4) 0) 4 = S0 := ⟨_, rfl⟩
  obtain ⟨ths, hth⟩ : ∃ ths, L.t = ths := ⟨_, rfl⟩
  rw [hS0, hth] at HV
  rw [hS0] at hcl
  have HCL := Lib.hid hcl
  have HB1 := Lib.hid hB1
  clear hS0 hth hcl hB1 HB
  by_cases hvo : v < 0 ∨ 3 < v
  · have HO1 := Lib.hid (ckOpen_out HV.out HCL.out v (by omega))
    have HT0 := Lib.hid (threadV HV.out 0 (by omega))
    have HFO := Lib.hid (ckFormat_out HV.out HCL.out (by omega) 0 (by omega) v (by omega) (by omega))
    by_cases hv0 : v < 0
    · go_wp2_with (first
        | (go_at_call 24; refine HO1.out.mono ?_; rintro e w' ⟨rfl, rfl⟩)
        | (go_at_call 26; refine HT0.out.mono ?_; rintro e w' ⟨rfl, rfl⟩)
        | (go_at_call 25; refine HFO.out.mono ?_; rintro e w' ⟨rfl, rfl⟩))
      go_ret
      exact ⟨rfl, HB1.out⟩
    · have hv3 : v > 3 := by omega
      go_wp2_with (first
        | (go_at_call 24; refine HO1.out.mono ?_; rintro e w' ⟨rfl, rfl⟩)
        | (go_at_call 26; refine HT0.out.mono ?_; rintro e w' ⟨rfl, rfl⟩)
        | (go_at_call 25; refine HFO.out.mono ?_; rintro e w' ⟨rfl, rfl⟩))
      go_ret
      exact ⟨rfl, HB1.out⟩
  · have hv0 : ¬ v < 0 := by omega
    have hv3 : ¬ v > 3 := by omega
    obtain ⟨q, rfl⟩ := Int.eq_ofNat_of_zero_le (show 0 ≤ v by omega)
    have hq : q < 4 := by omega
    have HOZ := Lib.hid (ckOpen_zero HV.out HCL.out (by omega) hq (by rw [List.getElem?_replicate, if_pos (by omega)]))
    clear hvo
    go_upto_region 16 with (first
      | (go_at_call 24; refine HOZ.out.mono ?_; rintro e w' ⟨rfl, hb⟩; obtain ⟨y, rfl⟩ := bx_of hb; clear hb))
    have HI0 : Hid (∃ S, DV (fun b => w.heap.size ≤ b) d ths y.w S ∧ Mid S 0 4 (List.replicate (8 * 4) 0) (opnW q bs 0) [] 0 ∧ Below w.heap.size w y.w) := ⟨_, HV.out.bx y, HCL.out.mid 0, HB1.out.trans (y.below.mono HB1.out.size)⟩
    obtain ⟨W, hW⟩ : ∃ W, y.w = W := ⟨_, rfl⟩
    rw [hW] at HI0 ⊢
    clear hW HV HCL HB1 HOZ
    go_wp2
    go_loopw [13, 71, 72, 62, 63, 64, 65, 66, 67, 68, 69, 70, 73, 74, 75, 76, 77, 78, 79, 80, 81, 82, 83, 84, 85] (fun i _ _ _ _ _ _ _ _ _ _ _ _ _ _ _ _ _ _ _ _ _ _ _ _ wr => ∃ k : Nat, k ≤ 8 ∧ i = .int .i64 (8 * (k : Int)) ∧ ∃ S, DV (fun b => w.heap.size ≤ b) d ths wr S ∧ Mid S 0 4 (List.replicate (8 * 4) 0) (opnW q bs k) [] k ∧ Below w.heap.size w wr) (fun i _ _ _ _ _ _ _ _ _ _ _ _ _ _ _ _ _ _ _ _ _ _ _ _ _ => 64 - (intOf i).toNat)
    case atStart => exact ⟨0, by omega, rfl, HI0.out⟩
    case round =>
      clear HI0
      obtain ⟨k, hk, rfl, S, hV, hM, hB⟩ := hrel
      have HV := Lib.hid hV
      have HMI := Lib.hid hM
      have HB := Lib.hid hB
      clear hV hM hB
      by_cases hin : 8 * (k : Int) + 8 ≤ (m : Int) ∧ 8 * (k : Int) < 64
      · obtain ⟨hi1, hi2⟩ := hin
        have hkl : 8 * k < bs.length := by rw [HM.out]; omega
        obtain ⟨b, o, hA, hb, hc⟩ := (HR.out.below HB.out).at_ hkl
        subst hA
        have hbv := HBS.out _ (List.getElem_mem hkl)
        have HST := Lib.hid (opnW_step q bs k)
        rw [List.getElem?_eq_getElem hkl, Option.getD_some] at HST
        obtain ⟨u, hu⟩ : ∃ u, bs[8 * k] = u := ⟨_, rfl⟩
        rw [hu] at hc hbv HST
        have e1 : IntKind.u64.wrap (64 * (q : Int) + 8 * (k : Int)) = 64 * (q : Int) + 8 * (k : Int) := IntWalk.u64_in _ (by omega)
        have e2 : IntKind.u64.wrap u = u := IntWalk.u64_in _ (by omega)
        have e3 : 8 * ((8 * q + k : Nat) : Int) = 64 * (q : Int) + 8 * (k : Int) := by omega
        have hmi := HMI.out.storeBy 1 (k := 8 * q + k) (by omega) u
        rw [e3] at hmi HST
        have HM2 := Lib.hid hmi
        have HT1 := Lib.hid (fun (y : BX wr) => threadV (HV.out.bx y) 1 (by omega))
        have HSTO := Lib.hid (fun (y : BX wr) => storeV (HV.out.bx y) 1 (by omega) HMI.out.good (by omega) (64 * (q : Int) + 8 * (k : Int)) u (by omega))
        clear hu hmi e3
        go_upto_region 19 with (fail)
        refine wp_region_bx_tail 12 (by kernel_rfl) (by kernel_rfl) ?_
        simp only [List.take_succ_cons, List.take_zero, List.drop_succ_cons, List.drop_zero]
        repeat (go_big_quiet_step ((go_at_call 26; exact bx_calle (HT1.out _))))
        refine wpQuiet_nil ?_
        rintro _ ⟨y, rfl⟩
        go_wp2_with (go_at_call 27; refine (HSTO.out y).mono ?_; rintro e w2 ⟨rfl, hV2, hC2⟩; have HV2 := Lib.hid hV2; have HC2 := Lib.hid hC2; clear hV2 hC2)
        refine ⟨⟨k + 1, by omega, by go_num, _, HV2.out, by rw [HST.out]; exact HM2.out, ?_⟩, by simp [intOf]; omega⟩
        exact (HB.out.trans (y.below.mono HB.out.size)).trans (HC2.out.to_below (by have h1 := HB.out.size; have h2 := y.size; omega) (fun b hb => hb))
      · obtain ⟨xsF, hxF⟩ : ∃ xsF, applyW (List.replicate (8 * 4) 0) (opnW q bs k ++ fmtW q) = xsF := ⟨_, rfl⟩
        have hlx : xsF.length = 8 * 4 := by rw [← hxF, length_applyW]; simp
        have hwd : ∀ j, xsF[j]? = if j = 8 * q then some (packE 1) else if j / 8 = q then some 0 else (applyW (List.replicate (8 * 4) 0) (opnW q bs k))[j]? := by
          intro j
          rw [← hxF, applyW_append]
          exact fmt_words _ 4 q (by rw [length_applyW]; simp) hq j
        have hft : Fits xsF := by
          rw [← hxF, applyW_append]
          refine applyW_fits _ (fmtW_fits q) _ (applyW_fits _ (opnW_fits HBS.out) _ fun x hx => ?_)
          rw [(List.mem_replicate.1 hx).2]; omega
        have HFM := Lib.hid (ckFormatM (q := q) HV.out HMI.out (opnW_mem hk) (by omega) hq (by omega) (by omega))
        rw [hxF] at HFM
        have HT0 := Lib.hid (threadV HV.out 0 (by omega))
        have HLX := Lib.hid hlx
        have HWD := Lib.hid hwd
        have HFT := Lib.hid hft
        clear hlx hwd hft hxF
        have hsplit : ¬ 8 * (k : Int) + 8 ≤ (m : Int) ∨ (8 * (k : Int) + 8 ≤ (m : Int) ∧ ¬ 8 * (k : Int) < 64) := by omega
        clear hin
        rcases hsplit with hs | ⟨hs1, hs2⟩
        · go_upto_region 22 with (first
            | (go_at_call 26; refine HT0.out.mono ?_; rintro e w' ⟨rfl, rfl⟩)
            | (go_at_call 25; refine HFM.out.mono ?_; rintro r w3 ⟨rfl, ⟨S3, hV3, hC3⟩, hH3⟩; have HV3 := Lib.hid hV3; have HC3 := Lib.hid hC3; have HH3 := Lib.hid hH3; clear hV3 hC3 hH3))
          have HB3 : Hid (Below w.heap.size w w3) := HB.out.trans (HH3.out.to_below HB.out.size (fun b hb => hb))
          obtain ⟨_, L3, hLt, hD3, hF3⟩ := HV3.out
          have hpl : S3.pers.length = 8 * 4 := by rw [HC3.out.pers]; exact HLX.out
          have HCR := Lib.hid (devCrash w3 d S3 4 (by omega) (by omega) hpl (fun K hK => by rw [HC3.out.upto K hK]; exact HFT.out) none 0 0 (devImage_nil w3 d L3 S3 hD3 (by rw [HC3.out.pers]; exact HFT.out) none))
          clear hLt hD3 hF3 hpl
          have HPO : Hid (∀ (d4 : Nat) (L4 : Lay) (w4 : World), Dev w4 d4 L4 (newS xsF 4) → (∀ b, Fp L4 b → w3.heap.size ≤ b) → Below w3.heap.size w3 w4 → Calls Try.prog 24 #[.pointer (some ⟨d4, 0, none⟩), .int .i64 (q : Int)] w4 (OpenPost (fun b => w3.heap.size ≤ b) d4 L4.t 4 q xsF 1 0 w4)) := by
            intro d4 L4 w4 hD hF hB
            have hV4 : DV (fun b => w3.heap.size ≤ b) d4 L4.t w4 (newS xsF 4) := ⟨fun b hb => by have := hB.size; omega, L4, rfl, hD, hF⟩
            refine ckOpen hV4 (new_clean xsF 4 HLX.out) (by omega) hq HLX.out ?_ (by omega) (fun j h1 h8 => ?_) (by omega)
            · rw [HWD.out, if_pos rfl]
            · rw [HWD.out, if_neg (by omega), if_pos (by omega)]
          go_upto_region 23 with (first
            | (go_at_call 28; refine HCR.out.mono ?_; rintro e w4 ⟨d4, L4, K, rfl, hK, hD4, hF4, hB4⟩; rw [HC3.out.upto K hK] at hD4; have HOP := Lib.hid (HPO.out d4 L4 w4 hD4 hF4 hB4); have HB4 := Lib.hid hB4; clear hK hD4 hF4 hB4)
            | (go_at_call 24; refine HOP.out.mono ?_; rintro r w5 ⟨c5, S5, rfl, hE5, hc5, hH5⟩; have HE5 := Lib.hid hE5; have HH5 := Lib.hid hH5; clear hE5 hc5 hH5))
          have HB5 : Hid (Below w.heap.size w w5) := by
            have h4 := HB3.out.trans (HB4.out.mono HB3.out.size)
            exact h4.trans (HH5.out.to_below h4.size (fun b hb => by have := HB3.out.size; omega))
          have HRO := Lib.hid (fun (W : World) => refOpen W 1 (fun _ => 0) (by omega))
          have HSM := Lib.hid (fun (y : BX w5) => same18 (HE5.out.below y.below))
          unfold rcv at HRO HSM
          go_wp2_with (first
            | (go_at_call 29; refine (HRO.out _).mono ?_; rintro e w' ⟨rfl, hb⟩; obtain ⟨y, rfl⟩ := bx_of hb; clear hb)
            | (go_at_call 12; refine (HSM.out y).mono ?_; rintro e w' ⟨rfl, hb⟩; obtain ⟨y2, rfl⟩ := bx_of hb; clear hb))
          go_ret
          exact ⟨rfl, HB5.out.trans (Below.mono (y.below.trans (y2.below.mono y.size)) HB5.out.size)⟩
        · go_upto_region 22 with (first
            | (go_at_call 26; refine HT0.out.mono ?_; rintro e w' ⟨rfl, rfl⟩)
            | (go_at_call 25; refine HFM.out.mono ?_; rintro r w3 ⟨rfl, ⟨S3, hV3, hC3⟩, hH3⟩; have HV3 := Lib.hid hV3; have HC3 := Lib.hid hC3; have HH3 := Lib.hid hH3; clear hV3 hC3 hH3))
          have HB3 : Hid (Below w.heap.size w w3) := HB.out.trans (HH3.out.to_below HB.out.size (fun b hb => hb))
          obtain ⟨_, L3, hLt, hD3, hF3⟩ := HV3.out
          have hpl : S3.pers.length = 8 * 4 := by rw [HC3.out.pers]; exact HLX.out
          have HCR := Lib.hid (devCrash w3 d S3 4 (by omega) (by omega) hpl (fun K hK => by rw [HC3.out.upto K hK]; exact HFT.out) none 0 0 (devImage_nil w3 d L3 S3 hD3 (by rw [HC3.out.pers]; exact HFT.out) none))
          clear hLt hD3 hF3 hpl
          have HPO : Hid (∀ (d4 : Nat) (L4 : Lay) (w4 : World), Dev w4 d4 L4 (newS xsF 4) → (∀ b, Fp L4 b → w3.heap.size ≤ b) → Below w3.heap.size w3 w4 → Calls Try.prog 24 #[.pointer (some ⟨d4, 0, none⟩), .int .i64 (q : Int)] w4 (OpenPost (fun b => w3.heap.size ≤ b) d4 L4.t 4 q xsF 1 0 w4)) := by
            intro d4 L4 w4 hD hF hB
            have hV4 : DV (fun b => w3.heap.size ≤ b) d4 L4.t w4 (newS xsF 4) := ⟨fun b hb => by have := hB.size; omega, L4, rfl, hD, hF⟩
            refine ckOpen hV4 (new_clean xsF 4 HLX.out) (by omega) hq HLX.out ?_ (by omega) (fun j h1 h8 => ?_) (by omega)
            · rw [HWD.out, if_pos rfl]
            · rw [HWD.out, if_neg (by omega), if_pos (by omega)]
          go_upto_region 23 with (first
            | (go_at_call 28; refine HCR.out.mono ?_; rintro e w4 ⟨d4, L4, K, rfl, hK, hD4, hF4, hB4⟩; rw [HC3.out.upto K hK] at hD4; have HOP := Lib.hid (HPO.out d4 L4 w4 hD4 hF4 hB4); have HB4 := Lib.hid hB4; clear hK hD4 hF4 hB4)
            | (go_at_call 24; refine HOP.out.mono ?_; rintro r w5 ⟨c5, S5, rfl, hE5, hc5, hH5⟩; have HE5 := Lib.hid hE5; have HH5 := Lib.hid hH5; clear hE5 hc5 hH5))
          have HB5 : Hid (Below w.heap.size w w5) := by
            have h4 := HB3.out.trans (HB4.out.mono HB3.out.size)
            exact h4.trans (HH5.out.to_below h4.size (fun b hb => by have := HB3.out.size; omega))
          have HRO := Lib.hid (fun (W : World) => refOpen W 1 (fun _ => 0) (by omega))
          have HSM := Lib.hid (fun (y : BX w5) => same18 (HE5.out.below y.below))
          unfold rcv at HRO HSM
          go_wp2_with (first
            | (go_at_call 29; refine (HRO.out _).mono ?_; rintro e w' ⟨rfl, hb⟩; obtain ⟨y, rfl⟩ := bx_of hb; clear hb)
            | (go_at_call 12; refine (HSM.out y).mono ?_; rintro e w' ⟨rfl, hb⟩; obtain ⟨y2, rfl⟩ := bx_of hb; clear hb))
          go_ret
          exact ⟨rfl, HB5.out.trans (Below.mono (y.below.trans (y2.below.mono y.size)) HB5.out.size)⟩
end Go.Proofs.Ytljolgcmkejlnaa
