/- Crash images, and the law MemCuts. -/
import Derived.Test.YtngkhligjkcbmaaKa
import Derived.Test.YtngkhligjkcbmaaKo
import Derived.Test.YtngkhligjkcbmaaKe
namespace Go.Proofs.Ytngkhligjkcbmaa
open Go.RowKit
set_option linter.unusedVariables false

/-- What Crash leaves: a new device, whose words are persistent words of a crash image. -/
def CrashPost (w : World) (S : DevS) (n : Nat) (e : Ending) (w' : World) : Prop :=
  ∃ d L K, e = .returned (.pointer (some ⟨d, 0, none⟩)) ∧ (∀ q l, S.lns[q]? = some l → K q ≤ l.hist.length) ∧ Dev w' d L (newS (S.upto K).pers n) ∧ (∀ b, Fp L b → w.heap.size ≤ b) ∧ Below w.heap.size w w'
end Go.Proofs.Ytngkhligjkcbmaa

namespace Go.Proofs.Ytngkhligjkcbmaa
open Go.RowKit
set_option linter.unusedVariables false

theorem imgK_le (S : DevS) (cs : List Int) (q : Nat) (l : Ln) (hl : S.lns[q]? = some l) : imgK S cs q ≤ l.hist.length := by
  unfold imgK
  have : hlen S q = l.hist.length := by unfold hlen; rw [hl]; rfl
  rw [this]
  have := Nat.mod_lt ((cs[(dirtyL S S.lns.length).idxOf q % cs.length]?.getD 0).toNat) (show 0 < l.hist.length + 1 by omega)
  omega
set_option maxRecDepth 100000 in
set_option maxHeartbeats 4000000 in
theorem devImage_some (w : World) (d : Nat) (L : Lay) (S : DevS) (N : Nat) (h : Dev w d L S) (hG : Good S N) (hN6 : N < 1000000) (hf : ∀ K, (∀ q l, S.lns[q]? = some l → K q ≤ l.hist.length) → Fits (S.upto K).pers) (A : Option Addr) (m c : Nat) (cs : List Int) (hm : cs.length = m) (hm0 : 0 < m) (hm1 : m ≤ 9223372036854775807) (hR : Rd .u8 w A cs) (hcs : ∀ x ∈ cs, 0 ≤ x ∧ x < 256) :
    Calls Try.prog 53 #[.pointer (some ⟨d, 0, none⟩), .slice A m c] w (ImgPost w S) := by
  have d0 : w.cell? ⟨d, 0, none⟩ = some (.slice (some ⟨L.pb, 0, none⟩) S.pers.length L.pc) := h.dev.cell_some (i := 0) rfl
  have d2 := h.lcell
  have dl := h.lt
  have hn := h.nl
  have hp := h.np
  obtain ⟨bl, hcb, hsz, hbl⟩ := h.lin
  have lbl := hcb.lt
  have HCL0 : Hid (∀ q, q < S.lns.length → w.cell? ⟨L.lb, q * 2 + 1, none⟩ = some (.slice (L.ha q) (hlen S q) (L.hc q))) := by
    intro q hq
    rw [hcb.cell, show q * 2 + 1 = 2 * q + 1 by omega, (hbl q hq).2]
    unfold hlen
    rw [List.getElem?_eq_getElem hq]; rfl
  have HHIS : Hid (∀ q, q < S.lns.length → Sl 34 2 w (L.ha q) (hlen S q) (L.hc q) (wcells (histL S q))) := by
    intro q hq
    have := h.his q hq
    unfold hlen histL
    rw [List.getElem?_eq_getElem hq]
    exact this
  have HCL := Lib.hid (cloneU w L.pb 0 S.pers.length L.pc S.pers rfl (by omega) (by omega) h.pers.rdW)
  have HDI := Lib.hid (fun (W : World) (hW : Below w.heap.size w W) => devDirty W d L S (h.below hW))
  have HGD := Lib.hid hG
  have HF := Lib.hid hf
  have HR := Lib.hid hR
  have HM := Lib.hid hm
  have HCS := Lib.hid hcs
  have HIA := Lib.hid (imgC_all hG (imgK S cs))
  obtain ⟨n, hnn⟩ : ∃ n, S.pers.length = n := ⟨_, rfl⟩
  have HN := Lib.hid hnn
  have hn5 : n ≤ 32768 := by omega
  obtain ⟨D, hD⟩ : ∃ D, dirtyL S S.lns.length = D := ⟨_, rfl⟩
  have HDD := Lib.hid hD
  have hDl : D.length ≤ 4096 := by rw [← hD]; have := dirtyL_le S S.lns.length; omega
  rw [hD] at HIA
  unfold DirtyPost at HDI
  rw [hD] at HDI
  unfold ImgPost
  obtain ⟨ln, hln⟩ : ∃ ln, S.lns.length = ln := ⟨_, rfl⟩
  have HLN := Lib.hid hln
  rw [hnn] at d0 HCL ⊢
  rw [hln] at d2 HCL0 HHIS hn
  have hm0' : (m : Int) > 0 := by omega
  clear h hG hf hR hm hcs hcb hsz hbl hnn hD hln hp
  go_enter Try.func53, Try.ntmps53
  go_wp2_with (first
    | (go_at_call 87; refine HCL.out.mono ?_; rintro e w1 ⟨g, c1, rfl, hS, hg, hb⟩; have HS := Lib.hid hS; have HB := Lib.hid hb; have HG := Lib.hid hg; clear hS hb hg)
    | (go_at_call 88; refine (HDI.out w1 HB.out).mono ?_; rintro e w2 ⟨A2, c2, rfl, hS2, hO2, hb2⟩; have HS2 := Lib.hid hS2; have HB2 := Lib.hid hb2; have HO2 := Lib.hid hO2; clear hS2 hb2 hO2))
  have hgl : g < w1.heap.size := HS.out.lt (by simp [OwnB])
  have HI0 : Hid (Sl 30 1 w2 (some ⟨g, 0, none⟩) n c1 (uints (imgC S (imgK S cs) D 0)) ∧ Ch (At g) w2 w2) := ⟨HS.out.keep (fun b hb => HB2.out.block b (HS.out.lt hb)), Ch.refl _ _⟩
  have hb12 : Below w.heap.size w w2 := HB.out.trans (HB2.out.mono HB.out.size)
  have HBW := Lib.hid hb12
  clear hb12
  go_loopw [23, 6, 7, 8, 9, 24, 25, 26, 27, 28, 29, 30, 31, 32, 33, 34, 35, 36, 37, 38, 39, 40, 41, 42, 43, 44, 45, 46, 47, 48, 49, 50, 51, 52, 53] (fun i _ _ _ _ _ _ _ _ _ _ _ _ _ _ _ _ _ _ _ _ _ _ _ _ _ _ _ _ _ _ _ _ _ _ wr => ∃ k : Nat, k ≤ D.length ∧ i = .int .i64 k ∧ Sl 30 1 wr (some ⟨g, 0, none⟩) n c1 (uints (imgC S (imgK S cs) D k)) ∧ Ch (At g) w2 wr) (fun i _ _ _ _ _ _ _ _ _ _ _ _ _ _ _ _ _ _ _ _ _ _ _ _ _ _ _ _ _ _ _ _ _ _ _ => D.length - (intOf i).toNat)
  case atStart => exact ⟨0, by omega, rfl, HI0.out⟩
  case round =>
    clear HI0
    obtain ⟨k, hk, rfl, hS, hC⟩ := hrel
    have hgw : w.heap.size ≤ g := HG.out
    have hbr : Below w.heap.size w wr := HBW.out.trans (hC.to_below HBW.out.size (fun b hb => by rw [show b = g from hb]; exact hgw))
    have HBR := Lib.hid hbr
    have HSW := Lib.hid hS
    have HC := Lib.hid hC
    clear hS
    by_cases hlt : k < D.length
    · have hlt' : (k : Int) < (D.length : Int) := by omega
      -- the line
      obtain ⟨gd, od, hA2, hgdl, hcd⟩ := HS2.out.at_ (j := k) (by rw [length_nints]; exact hlt)
      have hgd : gd ≠ g := by have := HO2.out gd (by rw [hA2]; simp [OwnB]); omega
      have hcd' : wr.cell? ⟨gd, od + k, none⟩ = some (.int .i64 (D[k] : Int)) := by
        rw [hC.cells gd _ hgdl (fun h => hgd h), hcd]
        simp [nints]
      have hmem : D[k] ∈ dirtyL S S.lns.length := by rw [HDD.out]; exact List.getElem_mem hlt
      obtain ⟨hq1, hq2⟩ := mem_dirtyL.1 hmem
      have hidx : (dirtyL S S.lns.length).idxOf D[k] = k := by
        have hnd := nodup_dirtyL S S.lns.length
        rw [HDD.out] at hnd ⊢
        exact hnd.idxOf_getElem k hlt
      have HST := Lib.hid (imgC_step S (imgK S cs) D k hlt)
      have hKq : imgK S cs D[k] = (cs[k % m]?.getD 0).toNat % (hlen S D[k] + 1) := by unfold imgK; rw [hidx, HM.out]
      obtain ⟨q, hq⟩ : ∃ q, D[k] = q := ⟨_, rfl⟩
      rw [hq] at hcd' hq1 hq2 HST hKq
      rw [HLN.out] at hq1
      have hkm : k % m < cs.length := by rw [HM.out]; exact Nat.mod_lt _ hm0
      obtain ⟨gc, oc, hAc, hgcl, hcc⟩ := HR.out.at_ hkm
      have hcr := HCS.out _ (List.getElem_mem hkm)
      rw [List.getElem?_eq_getElem hkm] at hKq
      obtain ⟨cv, hcv⟩ : ∃ cv, cs[k % m] = cv := ⟨_, rfl⟩
      rw [hcv] at hcc hcr hKq
      simp only [Option.getD_some] at hKq
      have hcc' : wr.cell? ⟨gc, oc + k % m, none⟩ = some (.int .u8 cv) := (hbr.cell (p := ⟨gc, oc + k % m, none⟩) hgcl).trans hcc
      -- the history
      have hHq := HHIS.out q hq1
      obtain ⟨hl, hhl⟩ : ∃ hl, hlen S q = hl := ⟨_, rfl⟩
      have hhl2 := hlen_histL S q
      rw [hhl] at hHq hq2 hKq hhl2
      obtain ⟨gh, oh, hAh, hghl, _⟩ := hHq.at_ (j := 0) (by rw [length_wcells, hhl2]; omega)
      have hlc := HCL0.out q hq1
      rw [hhl, hAh] at hlc
      rw [hAh] at hHq
      obtain ⟨ch, hch⟩ : ∃ ch, L.hc q = ch := ⟨_, rfl⟩
      rw [hch] at hlc hHq
      have hmc : hl ≤ ch ∧ ch ≤ maxLen := by
        rcases hHq.2 with ⟨hx, _⟩ | ⟨_, _, _, _, _, y1, y2, _⟩
        · cases hx
        · exact ⟨y1, y2⟩
      have hmx : ch ≤ 9223372036854775807 := by have := hmc.2; unfold maxLen at this; omega
      have hmc1 := hmc.1
      obtain ⟨kk, hkk⟩ : ∃ kk, imgK S cs q = kk := ⟨_, rfl⟩
      have hkl : kk ≤ hl := by rw [← hkk, hKq]; have := Nat.mod_lt cv.toNat (show 0 < hl + 1 by omega); omega
      have hki : cv % ((hl : Int) + 1) = (kk : Int) := by
        obtain ⟨x, hx⟩ := Int.eq_ofNat_of_zero_le hcr.1
        rw [← hkk, hKq, hx, Int.toNat_natCast, show ((hl : Int) + 1) = ((hl + 1 : Nat) : Int) by omega, ← Int.natCast_emod]
      rw [hkk] at HST
      have hd2 : wr.cell? ⟨d, 2, none⟩ = some (.slice (some ⟨L.lb, 0, none⟩) ln ln) := (hbr.cell (p := ⟨d, 2, none⟩) dl).trans d2
      have hlc' : wr.cell? ⟨L.lb, q * 2 + 1, none⟩ = some (.slice (some ⟨gh, oh, none⟩) hl ch) := (hbr.cell (p := ⟨L.lb, q * 2 + 1, none⟩) lbl).trans hlc
      have hdl' : d < wr.heap.size := Nat.lt_of_lt_of_le dl hbr.size
      have hll' : L.lb < wr.heap.size := Nat.lt_of_lt_of_le lbl hbr.size
      have hq1' : (q : Int) < (ln : Int) := by omega
      have HAP : Hid (Calls Try.prog 89 #[.slice (some ⟨g, 0, none⟩) n c1, .slice (some ⟨gh, oh, none⟩) kk ch] wr fun e w' => e = .returned (.tuple #[]) ∧ Sl 30 1 w' (some ⟨g, 0, none⟩) n c1 (uints (applyW (imgC S (imgK S cs) D k) ((histL S q).take kk))) ∧ Ch (At g) wr w') := by
        refine devApply wr g n c1 kk ch _ (some ⟨gh, oh, none⟩) ((histL S q).take kk) HSW.out (by rw [length_imgC]; exact HN.out) ?_ (by rw [List.length_take, hhl2]; omega) (by simp [OwnB]; intro h; rw [h] at hghl; omega) (fun p hp => ?_) (by omega) hn5
        · have := (hHq.keep (fun b hb => hbr.block b (hHq.lt hb))).take kk hkl
          rwa [wcells_take] at this
        · obtain ⟨j, hj1, hj2⟩ := hist_line HGD.out q p (List.mem_of_mem_take hp)
          have := HGD.out.np
          rw [HN.out, HLN.out] at this
          omega
      have hcv1 : cv < 256 := hcr.2
      have hcv0 : 0 ≤ cv := hcr.1
      have hl9 : hl ≤ 1000000 := by
        have hqq : q < S.lns.length := by rw [HLN.out]; exact hq1
        have h1 := HGD.out.ln q _ (List.getElem?_eq_getElem hqq)
        have h2 : S.lns[q].hist.length = hl := by rw [← hhl]; unfold hlen; rw [List.getElem?_eq_getElem hqq]; rfl
        omega
      have hb1 : (k : Int) % (m : Int) < (m : Int) := Int.emod_lt_of_pos _ (by omega)
      have hb0 : 0 ≤ (k : Int) % (m : Int) := Int.emod_nonneg _ (by omega)
      subst hA2 hAc
      clear hbr hC hcd hcc hlc hmem hidx hKq hkk hmc d0 d2
      go_wp2_with (go_at_call 89; refine HAP.out.mono ?_; rintro e w4 ⟨rfl, hS4, hC4⟩; have HS4 := Lib.hid hS4; have HC4 := Lib.hid hC4; clear hS4 hC4)
      refine ⟨⟨k + 1, by omega, by go_num, by rw [HST.out]; exact HS4.out, HC.out.trans HC4.out (fun _ h _ => h)⟩, by simp [intOf]; omega⟩
    · obtain rfl : k = D.length := by omega
      have hI9 := HSW.out
      rw [HIA.out] at hI9
      have HI9 := Lib.hid hI9
      clear hI9 hbr hC
      have HBO := Lib.hid (bytesOfD wr (some ⟨g, 0, none⟩) n c1 (S.upto (imgK S cs)).pers (by rw [(length_upto _).1]; exact HN.out) hn5 (HF.out _ (fun q l hl => imgK_le S cs q l hl)) HI9.out.rdW)
      go_wp2_with (go_at_call 86; refine HBO.out.mono ?_; rintro e w3 ⟨g2, rfl, hI2, hg2, hb2⟩; have HI2 := Lib.hid hI2; have HB3 := Lib.hid hb2; have HG2 := Lib.hid hg2; clear hI2 hb2 hg2)
      go_ret
      exact ⟨g2, imgK S cs, rfl, fun q l hl => imgK_le S cs q l hl, HI2.out, Nat.le_trans HBR.out.size HG2.out, HBR.out.trans (HB3.out.mono HBR.out.size)⟩
end Go.Proofs.Ytngkhligjkcbmaa

namespace Go.Proofs.Ytngkhligjkcbmaa
open Go.RowKit
set_option linter.unusedVariables false

set_option maxRecDepth 100000 in
set_option maxHeartbeats 2000000 in
/-- Image without a choice. -/
theorem devImage_nilc (w : World) (d : Nat) (L : Lay) (S : DevS) (h : Dev w d L S) (hf : Fits S.pers) (A : Option Addr) (cp : Nat) :
    Calls Try.prog 53 #[.pointer (some ⟨d, 0, none⟩), .slice A 0 cp] w (ImgPost w S) := by
  have d0 : w.cell? ⟨d, 0, none⟩ = some (.slice (some ⟨L.pb, 0, none⟩) S.pers.length L.pc) := h.dev.cell_some (i := 0) rfl
  have dl := h.lt
  have hn := h.nl
  have hp := h.np
  have HCL := Lib.hid (cloneU w L.pb 0 S.pers.length L.pc S.pers rfl (by omega) (by omega) h.pers.rdW)
  have HF := Lib.hid hf
  obtain ⟨n, hnn⟩ : ∃ n, S.pers.length = n := ⟨_, rfl⟩
  have HN := Lib.hid hnn
  have hn5 : n ≤ 32768 := by omega
  unfold ImgPost
  rw [hnn] at d0 HCL ⊢
  clear h hf hnn hp
  go_enter Try.func53, Try.ntmps53
  go_wp2_with (first
    | (go_at_call 87; refine HCL.out.mono ?_; rintro e w1 ⟨g, c, rfl, hS, hg, hb⟩; have HS := Lib.hid hS; have HB := Lib.hid hb; have HG := Lib.hid hg; clear hS hb hg)
    | (go_at_call 86; refine (bytesOfD w1 _ n c S.pers HN.out hn5 HF.out HS.out.rdW).mono ?_; rintro e w2 ⟨g2, rfl, hI2, hg2, hb2⟩; have HI2 := Lib.hid hI2; have HB2 := Lib.hid hb2; have HG2 := Lib.hid hg2; clear hI2 hb2 hg2))
  go_ret
  refine ⟨g2, fun _ => 0, rfl, fun _ _ _ => Nat.zero_le _, ?_, Nat.le_trans HB.out.size HG2.out, HB.out.trans (HB2.out.mono HB.out.size)⟩
  rw [upto_none0]; exact HI2.out
end Go.Proofs.Ytngkhligjkcbmaa

namespace Go.Proofs.Ytngkhligjkcbmaa
open Go.RowKit
set_option linter.unusedVariables false

/-- The stores of a program to a line. -/
def stP (q : Nat) (p : Ins) : Bool := decide (p.1 = 1) && decide (p.2.1 / 64 = (q : Int))
def stq (q : Nat) (ps : List Ins) : List (Int × Int) := (ps.filter (stP q)).map (·.2)
theorem stq_nil (q : Nat) : stq q [] = [] := rfl
theorem stq_append (q : Nat) (ps qs : List Ins) : stq q (ps ++ qs) = stq q ps ++ stq q qs := by simp [stq]
theorem stq_one (q : Nat) (p : Ins) : stq q [p] = if stP q p then [p.2] else [] := by
  unfold stq
  by_cases h : stP q p = true
  · simp [h]
  · have : stP q p = false := by simpa using h
    simp [this]
theorem stq_cons (q : Nat) (p : Ins) (ps : List Ins) : stq q (p :: ps) = (if stP q p then [p.2] else []) ++ stq q ps := by
  rw [← stq_one, ← stq_append]; rfl
/-- A prefix of the stores to a line is what a prefix of the program stores to it. -/
theorem stq_take (q : Nat) : ∀ (ps : List Ins) (k : Nat), ∃ i, i ≤ ps.length ∧ stq q (ps.take i) = (stq q ps).take k := by
  intro ps
  induction ps with
  | nil => intro k; exact ⟨0, Nat.le_refl _, by simp [stq]⟩
  | cons p ps ih =>
    intro k
    by_cases hp : stP q p = true
    · cases k with
      | zero => exact ⟨0, Nat.zero_le _, by simp [stq]⟩
      | succ k =>
        obtain ⟨i, hi, he⟩ := ih k
        refine ⟨i + 1, by simpa using hi, ?_⟩
        rw [List.take_succ_cons, stq_cons, stq_cons, he, if_pos hp]
        simp
    · obtain ⟨i, hi, he⟩ := ih k
      refine ⟨i + 1, by simpa using hi, ?_⟩
      rw [List.take_succ_cons, stq_cons, stq_cons, he, if_neg hp]
      simp
theorem applyW_append (xs : List Int) (a b : List (Int × Int)) : applyW xs (a ++ b) = applyW (applyW xs a) b := by simp [applyW]
/-- Of the stores to line q the first are persistent, the others not. -/
def CutI (S : DevS) (W : List Int) (q : Nat) (ss : List (Int × Int)) : Prop :=
  ∃ a b, ss = a ++ b ∧ (S.lns[q]?.map (·.hist)) = some b ∧ ∀ j, j / 8 = q → S.pers[j]? = (applyW W a)[j]?
section
variable {S S' : DevS} {W : List Int} {q : Nat} {ss : List (Int × Int)}
theorem CutI.same (h : CutI S W q ss) (h1 : S'.pers = S.pers) (h2 : S'.lns = S.lns) : CutI S' W q ss := by
  obtain ⟨a, b, h3, h4, h5⟩ := h
  exact ⟨a, b, h3, by rw [h2]; exact h4, by rw [h1]; exact h5⟩
theorem CutI.upto_at (h : CutI S W q ss) (hl : S.pers.length = W.length) (K : Nat → Nat) :
    ∃ a b, ss = a ++ b ∧ (S.lns[q]?.map (·.hist)) = some b ∧ ∀ j, j / 8 = q → (S.upto K).pers[j]? = (applyW W (a ++ b.take (K q)))[j]? := by
  obtain ⟨a, b, h3, h4, h5⟩ := h
  refine ⟨a, b, h3, h4, fun j hj => ?_⟩
  by_cases hjl : j < S.pers.length
  · rw [upto_pers K j hjl, hj, h4, applyW_append]
    exact applyW_congr _ j _ _ (by rw [length_applyW]; exact hl) (h5 j hj)
  · rw [List.getElem?_eq_none (by rw [(length_upto K).1]; omega), List.getElem?_eq_none (by rw [length_applyW]; omega)]
/-- What a crash image contains of a line: what a prefix of the stores makes of it. -/
theorem CutI.image (h : CutI S W q ss) (hl : S.pers.length = W.length) (K : Nat → Nat) : ∃ k, ∀ j, j / 8 = q → (S.upto K).pers[j]? = (applyW W (ss.take k))[j]? := by
  obtain ⟨a, b, h3, _, h5⟩ := h.upto_at hl K
  refine ⟨a.length + K q, fun j hj => ?_⟩
  rw [h5 j hj, h3, List.take_append, List.take_of_length_le (by omega : a.length ≤ a.length + K q)]
  congr 2
  rw [show a.length + K q - a.length = K q by omega]
theorem CutI.fence (h : CutI S W q ss) (hl : S.pers.length = W.length) (K : Nat → Nat) : CutI (S.upto K) W q ss := by
  obtain ⟨a, b, h3, h4, h5⟩ := h.upto_at hl K
  refine ⟨a ++ b.take (K q), b.drop (K q), by rw [h3, List.append_assoc, List.take_append_drop], ?_, h5⟩
  rw [upto_ln]
  obtain ⟨l, h6, h7⟩ := Option.map_eq_some_iff.1 h4
  rw [h6, ← h7]
  rfl
theorem CutI.write (h : CutI S W q ss) (k : Nat) (v : Int) : CutI (S.write k v) W q (ss ++ if k / 8 = q then [(8 * (k : Int), v)] else []) := by
  obtain ⟨a, b, h3, h4, h5⟩ := h
  obtain ⟨l, h6, h7⟩ := Option.map_eq_some_iff.1 h4
  refine ⟨a, b ++ if k / 8 = q then [(8 * (k : Int), v)] else [], by rw [h3, List.append_assoc], ?_, h5⟩
  show ((S.lns.modify (k / 8) _)[q]?.map (·.hist)) = _
  rw [List.getElem?_modify, h6]
  by_cases hk : k / 8 = q
  · simp [hk, h7]
  · simp [hk, h7]
end
/-- An instruction that a device of four lines counts. -/
def InsV (p : Ins) : Prop := insB p = true ∧ ∃ k : Nat, k < 32 ∧ p.2.1 = 8 * (k : Int)
/-- A device of four lines that is on and loses its power after l instructions. -/
structure CutS (S : DevS) (W : List Int) (done : List Ins) (l : Nat) : Prop where
  off : S.off = false
  armed : S.armed = true
  left : S.left = (l : Int)
  nl : S.lns.length = 4
  np : S.pers.length = W.length
  at_ : ∀ q, q < 4 → CutI S W q (stq q done)
theorem insV_valid {S : DevS} (hn : S.lns.length = 4) {p : Ins} (hp : InsV p) : S.wordB p.2.1 = true ∧ S.inB p.2.1 = true := by
  obtain ⟨_, k, hk, he⟩ := hp
  rw [he]
  constructor
  · simp [DevS.wordB, hn]; omega
  · simp [DevS.inB, hn]; omega
/-- One instruction, while the power is on. -/
theorem CutS.step {S : DevS} {W : List Int} {done : List Ins} {l : Nat} (h : CutS S W done (l + 1)) (i : Nat) {p : Ins} (hp : InsV p) : CutS (S.exec1 i p) W (done ++ [p]) l := by
  obtain ⟨hv1, hv2⟩ := insV_valid h.nl hp
  obtain ⟨c1, c2⟩ := cnt_go h.off h.armed (by rw [h.left]; omega) i
  obtain ⟨hb, k, hk, he⟩ := hp
  obtain ⟨T, hT⟩ : ∃ T : DevS, ({ S with left := S.left - 1, exec := IntKind.u64.wrap (S.exec + 1) } : DevS) = T := ⟨_, rfl⟩
  have tl : T.left = (l : Int) := by rw [← hT]; show S.left - 1 = _; rw [h.left]; omega
  have t0 : T.off = false := by rw [← hT]; exact h.off
  have t1 : T.armed = true := by rw [← hT]; exact h.armed
  have t2 : T.lns.length = 4 := by rw [← hT]; exact h.nl
  have t3 : T.pers.length = W.length := by rw [← hT]; exact h.np
  have t4 : ∀ q, q < 4 → CutI T W q (stq q done) := fun q hq => (h.at_ q hq).same (by rw [← hT]) (by rw [← hT])
  rw [hT] at c2
  clear hT
  unfold DevS.exec1 DevS.store DevS.flush DevS.fence
  rw [hv1, hv2, c1, c2, if_pos rfl, if_pos rfl, if_pos rfl]
  by_cases h1 : p.1 = 1
  · rw [if_pos h1]
    have hk8 : (p.2.1 / 8).toNat = k := by omega
    rw [hk8]
    refine ⟨t0, t1, tl, by simpa [DevS.write] using t2, t3, fun q hq => ?_⟩
    have hw := (t4 q hq).write k p.2.2
    have hs : (if k / 8 = q then [(8 * (k : Int), p.2.2)] else []) = stq q [p] := by
      rw [stq_one]
      unfold stP
      by_cases hkq : k / 8 = q
      · have : p.2.1 / 64 = (q : Int) := by omega
        rw [if_pos hkq, if_pos (by simp [h1, this]), ← he]
      · have : ¬ p.2.1 / 64 = (q : Int) := by omega
        rw [if_neg hkq, if_neg (by simp [this])]
    rw [stq_append, ← hs]
    exact hw
  · rw [if_neg h1]
    have hs : ∀ q, stq q (done ++ [p]) = stq q done := by
      intro q
      rw [stq_append, stq_one, if_neg (by simp [stP, h1]), List.append_nil]
    by_cases h2 : p.1 = 2
    · rw [if_pos h2]
      exact ⟨t0, t1, tl, t2, t3, fun q hq => by rw [hs]; exact (t4 q hq).same rfl rfl⟩
    · rw [if_neg h2]
      exact ⟨t0, t1, tl, by show (T.upto _).lns.length = 4; rw [(length_upto _).2]; exact t2, by show (T.upto _).pers.length = _; rw [(length_upto _).1]; exact t3, fun q hq => by rw [hs]; exact ((t4 q hq).fence t3 _).same rfl rfl⟩
/-- The instruction at which the power fails. -/
theorem CutS.cut {S : DevS} {W : List Int} {done : List Ins} (h : CutS S W done 0) (i : Nat) {p : Ins} (hp : InsV p) : (S.exec1 i p).off = true ∧ (S.exec1 i p).pers = S.pers ∧ (S.exec1 i p).lns = S.lns := by
  obtain ⟨hv1, hv2⟩ := insV_valid h.nl hp
  have hx := cnt_cut h.off h.armed (by rw [h.left]; rfl) i
  unfold DevS.exec1 DevS.store DevS.flush DevS.fence
  rw [hv1, hv2, hx.1]
  simp only [Bool.false_eq_true, if_false]
  split
  · exact hx.2
  · split <;> exact hx.2
theorem off_runP (i : Nat) : ∀ (ps : List Ins) (S : DevS), S.off = true → (S.runP i ps).pers = S.pers ∧ (S.runP i ps).lns = S.lns := by
  intro ps
  induction ps with
  | nil => intro S _; exact ⟨rfl, rfl⟩
  | cons p ps ih =>
    intro S ho
    obtain ⟨h1, h2, h3⟩ := off_exec1 ho i p
    obtain ⟨h4, h5⟩ := ih _ h1
    exact ⟨h4.trans h2, h5.trans h3⟩
/-- What a cut program leaves. -/
theorem cut_runP (i : Nat) (W : List Int) : ∀ (ps : List Ins) (S : DevS) (done : List Ins) (l : Nat), CutS S W done l → (∀ p ∈ ps, InsV p) →
    (S.runP i ps).lns.length = 4 ∧ (S.runP i ps).pers.length = W.length ∧ ∀ q, q < 4 → CutI (S.runP i ps) W q (stq q (done ++ ps.take l)) := by
  intro ps
  induction ps with
  | nil => intro S done l h _; exact ⟨h.nl, h.np, fun q hq => by show CutI S W q _; simpa using h.at_ q hq⟩
  | cons p ps ih =>
    intro S done l h hps
    cases l with
    | zero =>
      obtain ⟨h1, h2, h3⟩ := h.cut i (hps p List.mem_cons_self)
      obtain ⟨h4, h5⟩ := off_runP i ps _ h1
      have e1 : (S.runP i (p :: ps)).pers = S.pers := h4.trans h2
      have e2 : (S.runP i (p :: ps)).lns = S.lns := h5.trans h3
      refine ⟨by rw [e2]; exact h.nl, by rw [e1]; exact h.np, fun q hq => ?_⟩
      rw [List.take_zero, List.append_nil]
      exact (h.at_ q hq).same e1 e2
    | succ l =>
      have := ih _ _ l (h.step i (hps p List.mem_cons_self)) (fun p hp => hps p (List.mem_cons_of_mem _ hp))
      rw [List.append_assoc] at this
      exact this
/-- The crash images of a program that is cut after n instructions. -/
theorem cuts_image (W : List Int) (hW : W.length = 32) (i n : Nat) (ps : List Ins) (hps : ∀ p ∈ ps, InsV p) (K : Nat → Nat) :
    ∀ q, q < 4 → ∃ x, x ≤ ps.length ∧ x ≤ n ∧ ∀ j, j / 8 = q → ((((newS W 4).arm (n : Int)).runP i ps).upto K).pers[j]? = (applyW W (stq q (ps.take x)))[j]? := by
  intro q hq
  have hA : (newS W 4).arm (n : Int) = { newS W 4 with armed := true, left := (n : Int) } := by
    unfold DevS.arm
    have h1 : imax (n : Int) 0 = (n : Int) := by unfold imax; rw [if_neg (by omega)]
    simp [newS, h1]
  have h0 : CutS ((newS W 4).arm (n : Int)) W [] n := by
    rw [hA]
    refine ⟨rfl, rfl, rfl, by simp [newS], rfl, fun q hq => ⟨[], [], rfl, ?_, fun j _ => rfl⟩⟩
    simp only [newS, List.getElem?_replicate, if_pos hq]
    rfl
  obtain ⟨h1, h2, h3⟩ := cut_runP i W ps _ [] n h0 hps
  obtain ⟨k, hk⟩ := (h3 q hq).image h2 K
  rw [List.nil_append] at hk
  obtain ⟨x, hx, he⟩ := stq_take q (ps.take n) k
  rw [List.length_take] at hx
  refine ⟨x, by omega, by omega, fun j hj => ?_⟩
  rw [hk j hj, ← he, List.take_take, Nat.min_eq_left (by omega)]
/-- The bytes of a line. -/
def lineB (q : Nat) (xs : List Int) : List Int := ((bytesL xs).drop (64 * q)).take 64
theorem length_lineB (q : Nat) (hq : q < 4) (xs : List Int) (hx : xs.length = 32) : (lineB q xs).length = 64 := by
  unfold lineB; rw [List.length_take, List.length_drop, length_bytesL, hx]; omega
theorem lineB_get (q : Nat) (hq : q < 4) (xs : List Int) (hx : xs.length = 32) (i : Nat) (hi : i < 64) : (lineB q xs)[i]? = some (byteAt xs (64 * q + i)) := by
  unfold lineB
  rw [List.getElem?_take, if_pos hi, List.getElem?_drop, bytesL_getq xs _ (by omega)]
theorem lineB_ext (q : Nat) (hq : q < 4) {xs ys : List Int} (hx : xs.length = 32) (hy : ys.length = 32) (h : ∀ j, j / 8 = q → xs[j]? = ys[j]?) : lineB q xs = lineB q ys := by
  apply List.ext_getElem?
  intro i
  by_cases hi : i < 64
  · rw [lineB_get q hq xs hx i hi, lineB_get q hq ys hy i hi]
    unfold byteAt
    rw [h ((64 * q + i) / 8) (by omega)]
  · rw [List.getElem?_eq_none (by rw [length_lineB q hq xs hx]; omega), List.getElem?_eq_none (by rw [length_lineB q hq ys hy]; omega)]
theorem lineB_range (q : Nat) (xs : List Int) : ∀ b ∈ lineB q xs, 0 ≤ b ∧ b ≤ 255 := by
  intro b hb
  have hb := List.mem_of_mem_drop (List.mem_of_mem_take hb)
  obtain ⟨i, hi, rfl⟩ := List.getElem_of_mem hb
  rw [bytesL_get]
  have := byteAt_range xs i
  omega
/-- The bytes of a line after the first k bytes of a store to its word j. -/
def midB (q : Nat) (xs : List Int) (j : Nat) (v : Int) : Nat → List Int
  | 0 => lineB q xs
  | k + 1 => (midB q xs j v k).set (8 * j + k) (v / 2 ^ (8 * k) % 256)
theorem length_midB (q : Nat) (hq : q < 4) (xs : List Int) (hx : xs.length = 32) (j : Nat) (v : Int) : ∀ k, (midB q xs j v k).length = 64 := by
  intro k
  induction k with
  | zero => exact length_lineB q hq xs hx
  | succ k ih => rw [midB, List.length_set, ih]
theorem midB_get (q : Nat) (hq : q < 4) (xs : List Int) (hx : xs.length = 32) (j : Nat) (v : Int) (i : Nat) (hi : i < 64) : ∀ k, k ≤ 8 → j < 8 → (midB q xs j v k)[i]? = some (if 8 * j ≤ i ∧ i < 8 * j + k then v / 2 ^ (8 * (i - 8 * j)) % 256 else byteAt xs (64 * q + i)) := by
  intro k
  induction k with
  | zero => intro _ _; rw [if_neg (by omega)]; exact lineB_get q hq xs hx i hi
  | succ k ih =>
    intro hk hj
    rw [midB, List.getElem?_set, length_midB q hq xs hx]
    by_cases h : 8 * j + k = i
    · subst h
      rw [if_pos rfl, if_pos hi, if_pos (by omega), show 8 * j + k - 8 * j = k by omega]
    · rw [if_neg h, ih (by omega) hj]
      by_cases h2 : 8 * j ≤ i ∧ i < 8 * j + k
      · rw [if_pos h2, if_pos (by omega)]
      · rw [if_neg h2, if_neg (by omega)]
theorem midB_all (q : Nat) (hq : q < 4) (xs : List Int) (hx : xs.length = 32) (j : Nat) (hj : j < 8) (v : Int) : midB q xs j v 8 = lineB q (xs.set (8 * q + j) v) := by
  apply List.ext_getElem?
  intro i
  by_cases hi : i < 64
  · rw [midB_get q hq xs hx j v i hi 8 (Nat.le_refl _) hj, lineB_get q hq _ (by simpa using hx) i hi]
    unfold byteAt
    rw [List.getElem?_set]
    by_cases h : 8 * j ≤ i ∧ i < 8 * j + 8
    · rw [if_pos h, if_pos (by omega), if_pos (by omega)]
      have e1 : (64 * q + i) % 8 * 8 = 8 * (i - 8 * j) := by omega
      rw [e1]
      rfl
    · rw [if_neg h, if_neg (by omega)]
  · rw [List.getElem?_eq_none (by rw [length_midB q hq xs hx]; omega), List.getElem?_eq_none (by rw [length_lineB q hq _ (by simpa using hx)]; omega)]
theorem strOf_eq {a b : List Int} (ha : ∀ x ∈ a, 0 ≤ x ∧ x ≤ 255) (hb : ∀ x ∈ b, 0 ≤ x ∧ x ≤ 255) : strOf a = strOf b ↔ a = b := by
  refine ⟨fun h => ?_, fun h => by rw [h]⟩
  rw [← bytesOf_strOf a ha, ← bytesOf_strOf b hb, h]
theorem strEq {a b : List Int} (ha : ∀ x ∈ a, 0 ≤ x ∧ x ≤ 255) (hb : ∀ x ∈ b, 0 ≤ x ∧ x ≤ 255) : ((strOf a).toList == (strOf b).toList) = decide (a = b) := by
  rw [Bool.eq_iff_iff]
  simp only [beq_iff_eq, decide_eq_true_eq]
  rw [ByteArray.toList_eq, ByteArray.toList_eq]
  refine ⟨fun h => (strOf_eq ha hb).1 ?_, fun h => by rw [h]⟩
  cases hx : strOf a with
  | mk x =>
    cases hy : strOf b with
    | mk y =>
      rw [hx, hy] at h
      have : x = y := Array.toList_inj.1 h
      rw [this]
/-- Was the image's line among the first k prefixes? -/
def foundB (q : Nat) (W : List Int) (ps : List Ins) (img : List Int) : Nat → Bool
  | 0 => decide (lineB q W = img)
  | k + 1 => foundB q W ps img k || decide (lineB q (applyW W (stq q (ps.take (k + 1)))) = img)
theorem foundB_true (q : Nat) (W : List Int) (ps : List Ins) (img : List Int) (x : Nat) (h : lineB q (applyW W (stq q (ps.take x))) = img) : ∀ k, x ≤ k → foundB q W ps img k = true := by
  intro k
  induction k with
  | zero =>
    intro hk
    obtain rfl : x = 0 := by omega
    simpa [foundB, stq, applyW] using h
  | succ k ih =>
    intro hk
    rw [foundB]
    by_cases hx : x = k + 1
    · subst hx; simp [h]
    · rw [ih (by omega)]; simp
theorem foundB_same (q : Nat) (W : List Int) (ps : List Ins) (img : List Int) (k : Nat) (h : stq q (ps.take (k + 1)) = stq q (ps.take k)) : foundB q W ps img (k + 1) = foundB q W ps img k := by
  rw [foundB, h]
  by_cases hd : lineB q (applyW W (stq q (ps.take k))) = img
  · rw [foundB_true q W ps img k hd k (Nat.le_refl _)]; rfl
  · simp [hd]
end Go.Proofs.Ytngkhligjkcbmaa

namespace Go.Proofs.Ytngkhligjkcbmaa
open Go.RowKit
set_option linter.unusedVariables false

theorem OwnI.isSome {k : IntKind} {e : TypeId} {w : World} {base : Nat} {A : Option Addr} {c : Nat} {xs : List Int} (h : OwnI k e w base A c xs) (hx : 0 < xs.length) : ∃ g, A = some ⟨g, 0, none⟩ ∧ base ≤ g ∧ g < w.heap.size ∧ xs.length ≤ c := by
  rcases h.cases with ⟨_, rfl, _⟩ | ⟨g, cur, rfl, hg, hh, hc, _⟩
  · simp at hx
  · exact ⟨g, rfl, hg, (Array.getElem?_eq_some_iff.1 hh).1, hc⟩
theorem OwnI.fz {k : IntKind} {e : TypeId} {w : World} {base g c : Nat} {xs : List Int} (h : OwnI k e w base (some ⟨g, 0, none⟩) c xs) (i : Nat) : w.frozen? ⟨g, i, none⟩ = false := by
  rcases h.cases with ⟨h1, _⟩ | ⟨g', cur, h1, hg, hh, _⟩
  · cases h1
  · injection h1 with h1
    injection h1 with h1
    subst h1
    simp [World.frozen?, hh]
theorem OwnI.set {k : IntKind} {e : TypeId} {w : World} {base g c : Nat} {xs : List Int} (h : OwnI k e w base (some ⟨g, 0, none⟩) c xs) (i : Nat) (hi : i < xs.length) (v : Int) : OwnI k e (w.setCell ⟨g, i, none⟩ (.int k v)) base (some ⟨g, 0, none⟩) c (xs.set i v) := by
  rcases h.cases with ⟨h1, _⟩ | ⟨g', cur, h1, hg, hh, h3, h4, h5, h6⟩
  · cases h1
  · injection h1 with h1
    injection h1 with h1
    subst h1
    have hc : (w.setCell ⟨g, i, none⟩ (.int k v)).heap[g]? = some (.cells (cur.setIfInBounds i (.int k v)) e (0, 0)) := by
      simp [World.setCell, Array.getElem?_modify, hh]
    refine ⟨by simp, .inr ⟨g, c, _, by rw [List.length_set], hg, hc, by simpa using h3, h4, by simpa using h5, ?_⟩⟩
    simp only [Array.toList_setIfInBounds, Nat.mul_one]
    rw [List.length_set, List.take_set, h6, List.map_set]
/-- Image, whatever the choice. -/
theorem imageV {F : Nat → Prop} {d : Nat} {t : Nat → Nat} (w : World) {S : DevS} {N : Nat} (h : DV F d t w S) (hG : Good S N) (hN : N < 1000000) (hf : FitS S) (A : Option Addr) (m c : Nat) (cs : List Int) (hm : cs.length = m) (hm1 : m ≤ 9223372036854775807) (hR : Rd .u8 w A cs) (hcs : ∀ x ∈ cs, 0 ≤ x ∧ x < 256) :
    Calls Try.prog 53 #[.pointer (some ⟨d, 0, none⟩), .slice A m c] w (ImgPost w S) := by
  obtain ⟨_, L, rfl, hD, _⟩ := h
  by_cases hz : m = 0
  · subst hz
    exact devImage_nilc w d L S hD hf.pers A c
  · exact devImage_some w d L S N hD hG hN (fun K hK => (hf.upto K).pers) A m c cs hm (by omega) hm1 hR hcs
/-- The state at a round of the loop over the program. -/
def CutR (base g c : Nat) (q : Nat) (ps : List Ins) (i : Nat) (w0 wr : World) : Prop :=
  OwnI .u8 5 wr base (some ⟨g, 0, none⟩) c (lineB q (applyW frW (stq q (ps.take i)))) ∧ Below w0.heap.size w0 wr

set_option maxRecDepth 100000 in
set_option maxHeartbeats 8000000 in
theorem law_MemCuts (w : World) (A0 : Option Addr) (n0 c0 : Nat) (z0 : List (Int × Int × Int)) (hz0 : IsTrips w A0 n0 c0 z0) (nb : Int) (hnb : 0 ≤ nb ∧ nb ≤ 255)
    (C : Option Addr) (mc cc : Nat) (bs : List Int) (hm : bs.length = mc) (hmb : mc ≤ 9223372036854775807) (hR : Rd .u8 w C bs) (hbs : ∀ x ∈ bs, 0 ≤ x ∧ x < 256) :
    Calls Try.prog 7 #[.slice A0 n0 c0, .int .u8 nb, .slice C mc cc] w fun e w' => e = .returned (.bool true) ∧ Below w.heap.size w w' := by
  obtain ⟨ps, hps⟩ : ∃ ps, progOf z0 = ps := ⟨_, rfl⟩
  have hl0 := length_progOf z0
  have hok := progOf_ok hz0
  rw [hps] at hl0 hok
  obtain ⟨m, hm'⟩ : ∃ m, ps.length = m := ⟨_, rfl⟩
  rw [hm'] at hl0
  obtain ⟨g0, hg0⟩ : ∃ g, ps.all insB = g := ⟨_, rfl⟩
  have HAW := Lib.hid (awake10_ok w)
  have HP0 := Lib.hid (fun W (hW : Below w.heap.size w W) => program10_ok W A0 n0 c0 z0 (hz0.bx hW))
  unfold ProgPost at HP0
  rw [hps, hm', hg0] at HP0
  have HM := Lib.hid hm'
  have HG0 := Lib.hid hg0
  have HOK := Lib.hid hok
  have HR := Lib.hid hR
  have HBS := Lib.hid (And.intro hm hbs)
  obtain ⟨nb0, nb1⟩ := hnb
  obtain ⟨nn, hnn⟩ : ∃ nn : Nat, nb = (nn : Int) := ⟨nb.toNat, by omega⟩
  subst hnn
  have hnn : nn ≤ 255 := by omega
  have ei : IntKind.i64.wrap (nn : Int) = (nn : Int) := IntWalk.i64_in _ (by omega)
  clear hz0 hps hm' hg0 hok nb0 nb1 hR hm hbs
  go_enter Try.func7, Try.ntmps7
  go_upto_region 4 with (first
    | (go_at_call 11; refine HAW.out.mono ?_; rintro e w1 ⟨rfl, hb⟩; have HB1 := Lib.hid hb; clear hb)
    | (go_at_call 12; refine (HP0.out w1 HB1.out).mono ?_; rintro e w2 ⟨P0, k0, rfl, hS, hb, hO⟩; have HS0 := Lib.hid hS; have HB2 := Lib.hid (HB1.out.trans (hb.mono HB1.out.size)); have HFR1 := Lib.hid (fresh_ok w2); clear hS hb hO))
  clear HAW HP0 HB1
  cases g0 with
  | false =>
    go_wp2
    go_ret
    exact ⟨rfl, HB2.out⟩
  | true =>
    by_cases hc8 : (mc : Int) > 8
    · go_wp2
      go_ret
      exact ⟨rfl, HB2.out⟩
    have hall : ∀ p ∈ ps, insB p = true := List.all_eq_true.1 HG0.out
    have HALL := Lib.hid hall
    have hmc8 : mc ≤ 8 := by omega
    clear hall
    go_upto_region 7 with (go_at_call 20; refine HFR1.out.mono ?_; rintro e w3 ⟨d, L, rfl, hD, hb, hf⟩; have HD := Lib.hid hD; have HB3 := Lib.hid hb; have HF := Lib.hid hf; clear hD hb hf)
    have hDV3 : DV (fun b => w2.heap.size ≤ b) d L.t w3 (newS frW 4) := ⟨fun b hb => Nat.le_trans HB3.out.size hb, L, rfl, HD.out, HF.out⟩
    have HPS := Lib.hid (devPersisted_ok w3 HD.out frW_fits 32 256 frW_length (by omega))
    unfold BytesPost at HPS
    obtain ⟨S, hS⟩ : ∃ S, newS frW 4 = S := ⟨_, rfl⟩
    have HSE := Lib.hid hS
    have hpS : S.pers = frW := by rw [← hS]; rfl
    have HGS : Hid (Good S 0 ∧ FitS S) := by rw [← hS]; exact ⟨fr_good, fr_fitS⟩
    rw [hS] at hDV3 HPS
    rw [hpS] at HPS
    have HDV3 := Lib.hid hDV3
    obtain ⟨t, ht⟩ : ∃ t, L.t = t := ⟨_, rfl⟩
    rw [ht] at HDV3
    clear hS hDV3 ht HD HF hpS HFR1 hc8
    go_upto_region 8 with (go_at_call 52; refine HPS.out.mono ?_; rintro e w4 ⟨g1, rfl, hI, hg, hb⟩; have HI1 := Lib.hid hI; have HG1 := Lib.hid hg; have HB4 := Lib.hid hb; clear hI hg hb)
    have hDV4 := HDV3.out.less HB4.out (fun b => w3.heap.size ≤ b ∧ b < w4.heap.size) (fun b hb => hb)
    have hg1l := HI1.out.lt
    obtain ⟨F, hF⟩ : ∃ F : Nat → Prop, (fun b => w2.heap.size ≤ b ∧ ¬ (w3.heap.size ≤ b ∧ b < w4.heap.size)) = F := ⟨_, rfl⟩
    rw [hF] at hDV4
    have hF2 : ∀ b, F b → w2.heap.size ≤ b ∧ ¬ (w3.heap.size ≤ b ∧ b < w4.heap.size) := by rw [← hF]; exact fun b hb => hb
    have HF2 := Lib.hid hF2
    have HF1 : Hid (¬ F g1) := fun h => (hF2 g1 h).2 ⟨HG1.out, hg1l⟩
    have HA := Lib.hid (armV hDV4 (nn : Int) (by omega))
    have HB24 : Hid (Below w2.heap.size w2 w4) := HB3.out.trans (HB4.out.mono HB3.out.size)
    clear hF hDV4 hF2 HPS HDV3
    go_upto_region 9 with (go_at_call 49; refine HA.out.mono ?_; rintro e w5 ⟨rfl, hD, hC⟩; have HD5 := Lib.hid hD; have HC5 := Lib.hid hC; clear hD hC)
    have HB25 : Hid (Below w2.heap.size w2 w5) := HB24.out.trans ((HC5.out.to_below HB24.out.size (fun b hb => (HF2.out b hb).1)).mono (Nat.le_refl _))
    have HI5 := Lib.hid (HI1.out.ch HC5.out HF1.out)
    have HTH := Lib.hid (vThread0 HD5.out)
    have hGA := HGS.out.1.arm (nn : Int)
    have hFA := HGS.out.2.arm (nn : Int)
    have HRN := Lib.hid (memRun w5 HD5.out 0 (by omega) hGA P0 m k0 ps HM.out (HS0.out.keep (fun b hl => HB25.out.block b (HS0.out.lt hl))) (fun b hb hf => by have := (HF2.out b hf).1; have := HS0.out.lt hb; omega) (by omega) (fun p hp => ⟨HALL.out p hp, (HOK.out p hp).1⟩))
    unfold RunPost at HRN
    obtain ⟨S1, hS1⟩ : ∃ S1, (S.arm (nn : Int)).runP 0 ps = S1 := ⟨_, rfl⟩
    have HG1S : Hid (Good S1 (0 + m) ∧ FitS S1) := by
      have h1 := Good.runP (i := 0) (by omega) ps hGA (fun p hp => (HOK.out p hp).1.1) (by rw [HM.out]; omega)
      rw [HM.out, hS1] at h1
      have h2 := FitS.runP 0 ps hFA (fun p hp => (HOK.out p hp).2.1)
      rw [hS1] at h2
      exact ⟨h1, h2⟩
    have HIM : Hid (S1.pers.length = 32 ∧ ∀ (K : Nat → Nat) (q : Nat), q < 4 → ∃ x, x ≤ m ∧ x ≤ nn ∧ lineB q (applyW frW (stq q (ps.take x))) = lineB q (S1.upto K).pers) := by
      have hv : ∀ p ∈ ps, InsV p := fun p hp => ⟨HALL.out p hp, (HOK.out p hp).2.2⟩
      have hlen : S1.pers.length = 32 := by
        have hn : S1.lns.length = 4 ∧ S1.pers.length = frW.length := by
          rw [← hS1, ← HSE.out]
          have hA : (newS frW 4).arm (nn : Int) = { newS frW 4 with armed := true, left := (nn : Int) } := by
            unfold DevS.arm
            have h1 : imax (nn : Int) 0 = (nn : Int) := by unfold imax; rw [if_neg (by omega)]
            simp [newS, h1]
          have h0 : CutS ((newS frW 4).arm (nn : Int)) frW [] nn := by
            rw [hA]
            refine ⟨rfl, rfl, rfl, by simp [newS], rfl, fun q hq => ⟨[], [], rfl, ?_, fun j _ => rfl⟩⟩
            simp only [newS, List.getElem?_replicate, if_pos hq]
            rfl
          have := cut_runP 0 frW ps _ [] nn h0 hv
          exact ⟨this.1, this.2.1⟩
        rw [hn.2]; exact frW_length
      refine ⟨hlen, fun K q hq => ?_⟩
      obtain ⟨x, h1, h2, h3⟩ := cuts_image frW frW_length 0 nn ps hv K q hq
      rw [HSE.out, hS1] at h3
      rw [HM.out] at h1
      exact ⟨x, h1, h2, lineB_ext q hq (by rw [length_applyW, frW_length]) (by rw [(length_upto K).1]; exact hlen) (fun j hj => (h3 j hj).symm)⟩
    rw [hS1] at HRN
    clear hS1 hGA hFA HA HC5 HD5 HB24 HG1 HI1 HB3 HB4
    go_upto_region 10 with (first
      | (go_at_call 22; refine HTH.out.mono ?_; rintro e w' ⟨rfl, rfl⟩)
      | (go_at_call 37; refine HRN.out.mono ?_; rintro e w6 ⟨rfl, hD, hC⟩; have HD6 := Lib.hid hD; have HC6 := Lib.hid hC; clear hD hC))
    have HB26 : Hid (Below w2.heap.size w2 w6) := HB25.out.trans ((HC6.out.to_below HB25.out.size (fun b hb => (HF2.out b hb).1)).mono (Nat.le_refl _))
    have HI6 := Lib.hid (HI5.out.ch HC6.out HF1.out)
    have HIG := Lib.hid (imageV w6 HD6.out HG1S.out.1 (by omega) HG1S.out.2 C mc cc bs HBS.out.1 (by omega) (HR.out.below (HB2.out.trans (HB26.out.mono HB2.out.size))) HBS.out.2)
    unfold ImgPost at HIG
    rw [HIM.out.1] at HIG
    clear HRN HTH HC6 HD6 HI5 HB25
    go_upto_region 11 with (go_at_call 53; refine HIG.out.mono ?_; rintro e w7 ⟨g2, K, rfl, _, hI, hg, hb⟩; have HI2 := Lib.hid hI; have HB7 : Hid (Below w2.heap.size w2 w7) := HB26.out.trans (hb.mono HB26.out.size); have HI7 := Lib.hid (HI6.out.below hb HI6.out.lt); clear hI hg hb)
    obtain ⟨img, himg⟩ : ∃ img, (S1.upto K).pers = img := ⟨_, rfl⟩
    have HLI : Hid (img.length = 32 ∧ ∀ q, q < 4 → ∃ x, x ≤ m ∧ x ≤ nn ∧ lineB q (applyW frW (stq q (ps.take x))) = lineB q img) := by
      rw [← himg]
      exact ⟨by rw [(length_upto K).1]; exact HIM.out.1, HIM.out.2 K⟩
    rw [himg] at HI2
    have HS7 := Lib.hid (HS0.out.keep (w' := w7) (fun b hl => HB7.out.block b (HS0.out.lt hl)))
    clear himg HIM HIG HB26 HI6 HG1S HGS HSE HF1 HF2 HR HBS
    have hg1 := HI7.out.lt
    have hg2 := HI2.out.lt
    go_wp2
    go_loopw [47, 12, 13, 14, 15, 16, 17, 48, 49, 50, 51, 52, 53, 54, 55, 56, 57, 58, 59, 60, 61, 62, 63, 64, 65, 66, 67, 68, 69, 70, 71, 72, 73, 74, 75, 76, 77, 78, 79, 80, 81, 82, 83, 84, 85, 86, 87, 88, 89, 90, 91, 92, 93, 94, 95, 96, 97, 98, 99, 100, 101, 102, 103, 104, 105, 106, 107, 108, 109, 110, 111, 112, 113, 114, 115, 116, 117, 118, 119, 120, 121, 122, 123, 124, 125, 126, 127] (fun i _ _ _ _ _ _ _ _ _ _ _ _ _ _ _ _ _ _ _ _ _ _ _ _ _ _ _ _ _ _ _ _ _ _ _ _ _ _ _ _ _ _ _ _ _ _ _ _ _ _ _ _ _ _ _ _ _ _ _ _ _ _ _ _ _ _ _ _ _ _ _ _ _ _ _ _ _ _ _ _ _ _ _ _ _ _ wr => ∃ q : Nat, q ≤ 4 ∧ i = .int .i64 q ∧ Below w7.heap.size w7 wr) (fun i _ _ _ _ _ _ _ _ _ _ _ _ _ _ _ _ _ _ _ _ _ _ _ _ _ _ _ _ _ _ _ _ _ _ _ _ _ _ _ _ _ _ _ _ _ _ _ _ _ _ _ _ _ _ _ _ _ _ _ _ _ _ _ _ _ _ _ _ _ _ _ _ _ _ _ _ _ _ _ _ _ _ _ _ _ _ _ => 4 - (intOf i).toNat)
    case atStart => exact ⟨0, by omega, rfl, Below.refl _ _⟩
    case round =>
      obtain ⟨q, hq, rfl, hB⟩ := hrel
      have HB := Lib.hid hB
      clear hB
      by_cases hlt : q < 4
      · have hq4 : (q : Int) < 4 := by omega
        have hq64 : IntKind.i64.wrap (64 * (q : Int)) = 64 * (q : Int) := IntWalk.i64_in _ (by omega)
        have hsz := HB.out.size
        have hlw : (lineB q frW).length = 64 := length_lineB q hlt frW frW_length
        have HRL : Hid (Rd .u8 (wr.alloc (.cells #[] 5)) (some ⟨g1, 64 * q, none⟩) (lineB q frW)) := (HI7.out.below (HB.out.trans ((bl_alloc (Below.refl _ _) _).mono hsz)) hg1).rd (64 * q) 64
        have HE0 : Hid (OwnI .u8 5 (wr.alloc (.cells #[] 5)) wr.heap.size (some ⟨wr.heap.size, 0, none⟩) 0 []) := OwnI.made wr 0 (by omega) (Nat.le_refl _)
        go_upto_region 15 with (at_builtin; go_loud (refine wpList_append_ints rfl (.tmp 50) (.tmp 57) 84 rfl 5 .u8 1 Try.underlying84 info_u8d (by omega) wr.heap.size (some ⟨wr.heap.size, 0, none⟩) 0 [] 0 (some ⟨g1, 64 * q, none⟩) (64 * q + 64 - 64 * q) (256 - 64 * q) (lineB q frW) rfl rfl rfl HE0.out (by rw [hlw]; omega) HRL.out (by rw [hlw]; simp) (by simp) ?_; intro A2 c2 w8 HO HC HW; rw [show 0 + (64 * q + 64 - 64 * q) = 64 by omega]))
        rw [List.nil_append] at HO
        obtain ⟨g, hg, hgb, hgl, hgc⟩ := HO.out.isSome (by rw [hlw]; omega)
        subst hg
        have HB8 : Hid (Below w7.heap.size w7 w8) := bl_ch (bl_alloc HB.out _) HC.out (fun b hb => by have : wr.heap.size = b := (by simpa [OwnB] using hb); omega)
        have h78 := HB8.out.size
        have hr8 : wr.heap.size ≤ w8.heap.size := by have := HC.out.size; simp at this; omega
        have hg17 : w7.heap.size ≤ g := by omega
        have hg1n : g1 ≠ g := by omega
        have hg2n : g2 ≠ g := by omega
        have HIMG : Hid (∀ W, Below w7.heap.size w7 W → Rd .u8 W (some ⟨g2, 64 * q, none⟩) (lineB q img)) := fun W hW => (HI2.out.below hW hg2).rd (64 * q) 64
        have HLI' : Hid ((lineB q img).length = 64) := length_lineB q hlt img HLI.out.1
        have HCI : Hid (∀ W, Below w7.heap.size w7 W → (convert 84 9 (.slice (some ⟨g2, 64 * q, none⟩) 64 (256 - 64 * q))).run Try.prog W = .ok (.string (strOf (lineB q img))) W) := fun W hW => run_bytes_str W 84 9 5 Try.underlying84 Try.underlying5 Try.underlying9 g2 (64 * q) 64 (256 - 64 * q) _ HLI'.out (HIMG.out W hW)
        have HCN : Hid (∀ W xs, OwnI .u8 5 W wr.heap.size (some ⟨g, 0, none⟩) c2 xs → xs.length = 64 → (convert 84 9 (.slice (some ⟨g, 0, none⟩) 64 c2)).run Try.prog W = .ok (.string (strOf xs)) W) := fun W xs hW hx => run_bytes_str W 84 9 5 Try.underlying84 Try.underlying5 Try.underlying9 g 0 64 c2 _ hx hW.rd
        have hci := HCI.out w8 HB8.out
        have hcid := fun n => HCI.out (w8.drewN n) (bl_drewN HB8.out n)
        have hcn := HCN.out w8 _ HO.out hlw
        have hcnd := fun n => HCN.out (w8.drewN n) _ (HO.out.drewN n) hlw
        clear HE0 HRL HC HW HIMG
        go_quiet (fail)
        rw [strEq (lineB_range q frW) (lineB_range q img)]
        have HO9 : Hid (CutR wr.heap.size g c2 q ps 0 w7 (w8.drewN nq)) := ⟨by rw [List.take_zero, stq_nil]; exact HO.out.drewN nq, bl_drewN HB8.out nq⟩
        have HF0 : Hid (decide (lineB q frW = lineB q img) = foundB q frW ps (lineB q img) 0) := rfl
        rw [HF0.out]
        have HFE : Hid (∀ i, (i = m ∨ i = nn) → i ≤ m → i ≤ nn → foundB q frW ps (lineB q img) i = true) := by
          intro i h1 h2 h3
          obtain ⟨x, hx1, hx2, hx3⟩ := HLI.out.2 q hlt
          exact foundB_true q frW ps _ x hx3 i (by omega)
        obtain ⟨base, hbase⟩ : ∃ base, wr.heap.size = base := ⟨_, rfl⟩
        rw [hbase] at hgb HCN HO9
        have hb7 : w7.heap.size ≤ base := by omega
        clear hci hcid hcn hcnd HO HB8 hr8 hbase HF0 HCN HCI HB hsz h78 hgl
        have HCI : Hid (∀ W n, Below w7.heap.size w7 W → (convert 84 9 (.slice (some ⟨g2, 64 * q, none⟩) 64 (256 - 64 * q))).run Try.prog (W.drewN n) = .ok (.string (strOf (lineB q img))) (W.drewN n)) := fun W n hW => run_bytes_str (P := Try.prog) (W.drewN n) 84 9 5 Try.underlying84 Try.underlying5 Try.underlying9 g2 (64 * q) 64 (256 - 64 * q) _ HLI'.out ((HI2.out.below (bl_drewN hW n) hg2).rd (64 * q) 64)
        have HCN : Hid (∀ W n xs, OwnI .u8 5 W base (some ⟨g, 0, none⟩) c2 xs → xs.length = 64 → (convert 84 9 (.slice (some ⟨g, 0, none⟩) 64 c2)).run Try.prog (W.drewN n) = .ok (.string (strOf xs)) (W.drewN n)) := fun W n xs hW hx => run_bytes_str (W.drewN n) 84 9 5 Try.underlying84 Try.underlying5 Try.underlying9 g 0 64 c2 _ hx (hW.drewN n).rd
        go_wp2
        rw [show 64 * q + 64 - 64 * q = 64 by omega]
        go_loopw [72, 14, 15, 16, 17, 73, 74, 75, 76, 77, 78, 79, 80, 81, 82, 83, 84, 85, 86, 87, 88, 89, 90, 91, 92, 93, 94, 95, 96, 97, 98, 99, 100, 101, 102, 103, 104, 105, 106, 107, 108, 109, 110, 111, 112, 113, 114, 115, 116, 117, 118, 119, 120, 121, 122, 123, 124] (fun i f _ _ _ _ _ _ _ _ _ _ _ _ _ _ _ _ _ _ _ _ _ _ _ _ _ _ _ _ _ _ _ _ _ _ _ _ _ _ _ _ _ _ _ _ _ _ _ _ _ _ _ _ _ _ _ wy => ∃ k : Nat, k ≤ m ∧ k ≤ nn ∧ i = .int .i64 k ∧ f = .bool (foundB q frW ps (lineB q img) k) ∧ CutR base g c2 q ps k w7 wy) (fun i f _ _ _ _ _ _ _ _ _ _ _ _ _ _ _ _ _ _ _ _ _ _ _ _ _ _ _ _ _ _ _ _ _ _ _ _ _ _ _ _ _ _ _ _ _ _ _ _ _ _ _ _ _ _ _ _ => m - (intOf i).toNat)
        case atStart => exact ⟨0, by omega, by omega, rfl, rfl, HO9.out⟩
        case round =>
          clear HO9
          obtain ⟨k, hk, hkn, rfl, rfl, hO, hB⟩ := hrel
          have HO := Lib.hid hO
          have HB := Lib.hid hB
          clear hO hB
          by_cases hkm : k < m
          · have hkl : k < ps.length := by rw [HM.out]; exact hkm
            obtain ⟨g', off, hA', hl, x1, x2, x3⟩ := (HS7.out.keep (w' := wr) (fun b hb => HB.out.block b (HS7.out.lt hb))).ins hkl
            obtain ⟨⟨op, of, v⟩, hp⟩ : ∃ p, ps[k] = p := ⟨_, rfl⟩
            rw [hp] at x1 x2 x3
            have hpp := HOK.out _ (List.getElem_mem hkl)
            rw [hp] at hpp
            have hof : 0 ≤ of ∧ of < 18446744073709551616 := hpp.1
            have hvv : 0 ≤ v ∧ v < 18446744073709551616 := hpp.2.1
            have HKK : Hid (∃ k : Nat, k < 32 ∧ of = 8 * (k : Int)) := hpp.2.2
            have HSQ : Hid (stq q (ps.take (k + 1)) = stq q (ps.take k) ++ (if stP q (op, of, v) then [(of, v)] else [])) := by
              show _ = _
              rw [List.take_succ_eq_append_getElem hkl, stq_append, stq_one, hp]
            subst hA'
            clear hp hpp
            by_cases hkn2 : k = nn
            · subst hkn2
              rw [HFE.out k (.inr rfl) hk (Nat.le_refl _)]
              go_wp2
              go_roundw
              case rel => exact ⟨q + 1, by omega, by go_num, bl_alloc HB.out _⟩
              case measure => simp [intOf]; omega
            · have hkn3 : ¬ (k : Int) ≥ (nn : Int) := by omega
              go_upto_region 20 with (fail)
              obtain ⟨V, hV⟩ : ∃ V, wr.alloc (.cells #[.int .u8 op, .int .u64 of, .int .u64 v] 32) = V := ⟨_, rfl⟩
              have hVb : Below wr.heap.size wr V := by rw [← hV]; exact bl_alloc (Below.refl _ _) _
              obtain ⟨tv, htv⟩ : ∃ tv, wr.heap.size = tv := ⟨_, rfl⟩
              have hVt : CB V tv 32 #[.int .u8 op, .int .u64 of, .int .u64 v] := by rw [← hV, ← htv]; exact CB.new wr _ _
              have y0 : V.cell? ⟨tv, 0, none⟩ = some (.int .u8 op) := hVt.cell_some rfl
              have y1 : V.cell? ⟨tv, 1, none⟩ = some (.int .u64 of) := hVt.cell_some rfl
              have y2 : V.cell? ⟨tv, 2, none⟩ = some (.int .u64 v) := hVt.cell_some rfl
              have y3 : tv < V.heap.size := hVt.lt
              have HOV := Lib.hid (HO.out.below hVb)
              have HBV : Hid (Below w7.heap.size w7 V) := HB.out.trans (hVb.mono HB.out.size)
              have htg : tv ≠ g := by
                obtain ⟨_, h1, _, h2, _⟩ := HO.out.isSome (by rw [length_lineB q hlt _ (by rw [length_applyW, frW_length])]; omega)
                injection h1 with h1
                injection h1 with h1
                omega
              have HVT := Lib.hid hVt
              rw [hV, htv]
              clear hV hVb htv hVt x1 x2 x3 hl HO HB
              by_cases hst : op = 1 ∧ of / 64 = (q : Int)
              · obtain ⟨rfl, hq6⟩ := hst
                have HST1 : Hid (stP q (1, of, v) = true) := by show _ = _; simp [stP, hq6]
                obtain ⟨j, hj8, hj⟩ : ∃ j : Nat, j < 8 ∧ of % 64 = 8 * (j : Int) := by
                  obtain ⟨kk, h1, h2⟩ := HKK.out
                  exact ⟨kk % 8, by omega, by omega⟩
                have HJQ : Hid ((of / 8).toNat = 8 * q + j) := by show _ = _; omega
                have hqw : IntKind.u64.wrap (q : Int) = (q : Int) := IntWalk.u64_in _ (by omega)
                have hqt : of.tdiv 64 = (q : Int) := by rw [Int.tdiv_eq_ediv_of_nonneg hof.1]; exact hq6
                have hjw : IntKind.i64.wrap (8 * (j : Int)) = 8 * (j : Int) := IntWalk.i64_in _ (by omega)
                have HQ6 := Lib.hid hq6
                have HJ := Lib.hid hj
                clear hq6 hj
                have hqwb : ((q : Int) == (q : Int)) = true := by simp
                obtain ⟨xs, hxs⟩ : ∃ xs, applyW frW (stq q (ps.take k)) = xs := ⟨_, rfl⟩
                rw [hxs] at HOV
                have hxl : xs.length = 32 := by rw [← hxs, length_applyW, frW_length]
                have HAL : Hid (midB q xs j v 8 = lineB q (applyW frW (stq q (ps.take (k + 1))))) := by
                  show _ = _
                  rw [midB_all q hlt xs hxl j hj8 v, HSQ.out, if_pos HST1.out, applyW_snoc, hxs]
                  show lineB q (xs.set (8 * q + j) v) = lineB q (xs.set (of / 8).toNat v)
                  rw [HJQ.out]
                have HXL := Lib.hid hxl
                clear hxs hxl
                obtain ⟨fb, hfb⟩ : ∃ fb, foundB q frW ps (lineB q img) k = fb := ⟨_, rfl⟩
                have HFB : Hid (foundB q frW ps (lineB q img) (k + 1) = (fb || decide (lineB q (applyW frW (stq q (ps.take (k + 1)))) = lineB q img))) := by
                  show _ = _
                  rw [foundB, hfb]
                rw [hfb]
                have HHB := Lib.hid hfb
                clear hfb
                go_wp2
                go_loopw [92, 17, 93, 94, 95, 96, 97, 98, 99, 100, 101, 102, 103, 104, 105, 106, 107, 108, 109] (fun i _ _ _ _ _ _ _ _ _ _ _ _ _ _ _ _ _ _ wz => ∃ p : Nat, p ≤ 8 ∧ i = .int .i64 p ∧ OwnI .u8 5 wz base (some ⟨g, 0, none⟩) c2 (midB q xs j v p) ∧ Below w7.heap.size w7 wz ∧ CB wz tv 32 #[.int .u8 1, .int .u64 of, .int .u64 v]) (fun i _ _ _ _ _ _ _ _ _ _ _ _ _ _ _ _ _ _ _ => 8 - (intOf i).toNat)
                case atStart => exact ⟨0, by omega, rfl, HOV.out, HBV.out, HVT.out⟩
                case round =>
                  clear y0 y1 y2 y3 HOV HBV HVT
                  obtain ⟨p, hp8, rfl, hO, hB, hC⟩ := hrel
                  have y1 : wr.cell? ⟨tv, 1, none⟩ = some (.int .u64 of) := hC.cell_some rfl
                  have y2 : wr.cell? ⟨tv, 2, none⟩ = some (.int .u64 v) := hC.cell_some rfl
                  have y3 : tv < wr.heap.size := hC.lt
                  by_cases hlt8 : p < 8
                  · have hlt8' : (p : Int) < 8 := by omega
                    have hfz := hO.fz (8 * j + p)
                    have hml := length_midB q hlt xs HXL.out j v p
                    obtain ⟨_, h1, _, hgl, h64⟩ := hO.isSome (by rw [hml]; omega)
                    injection h1 with h1
                    injection h1 with h1
                    subst h1
                    obtain ⟨gb, go, hA2, _, hgc⟩ := hO.rd.at_ (i := 8 * j + p) (by rw [hml]; omega)
                    injection hA2 with hA2
                    injection hA2 with hA2 hA3
                    subst hA2 hA3
                    rw [Nat.zero_add] at hgc
                    obtain ⟨old, hold⟩ : ∃ old, (midB q xs j v p)[8 * j + p]'(by rw [hml]; omega) = old := ⟨_, rfl⟩
                    rw [hold] at hgc
                    have hmt : of.tmod 64 = 8 * (j : Int) := by rw [Int.tmod_eq_emod_of_nonneg hof.1]; exact HJ.out
                    have hpw : IntKind.i64.wrap (8 * (p : Int)) = 8 * (p : Int) := IntWalk.i64_in _ (by omega)
                    have h1w : IntKind.u64.wrap (8 * (j : Int)) = 8 * (j : Int) := IntWalk.u64_in _ (by omega)
                    have hjp : IntKind.i64.wrap (8 * (j : Int) + (p : Int)) = 8 * (j : Int) + (p : Int) := IntWalk.i64_in _ (by omega)
                    have hjp1 : 8 * (j : Int) + (p : Int) < 64 := by omega
                    have hjp0 : 0 ≤ 8 * (j : Int) + (p : Int) := by omega
                    have HO := Lib.hid hO
                    have HB := Lib.hid hB
                    have HC := Lib.hid hC
                    have HML := Lib.hid hml
                    clear hO hB hC hold
                    go_upto_region 24 with (fail)
                    refine wp_region_still_n 14 (by kernel_rfl) (by kernel_rfl) ?_
                    simp only [List.take_succ_cons, List.take_zero, List.drop_succ_cons, List.drop_zero]
                    repeat (go_big_quiet_step (fail))
                    refine wpQuiet_nil ?_
                    rintro _ ⟨nq, rfl⟩
                    go_wp2
                    exact ⟨⟨p + 1, by omega, by go_num, (HO.out.drewN nq).set (8 * j + p) (by rw [HML.out]; omega) _, (bl_drewN HB.out nq).setCell (p := ⟨g, 8 * j + p, none⟩) hg17 _, (HC.out.drewN nq).ch ((Ch.refl (At g) _).set1 (8 * j + p) _) (fun h => htg h)⟩, by simp [intOf]; omega⟩
                  · obtain rfl : p = 8 := by omega
                    rw [HAL.out] at hO
                    have HO := Lib.hid hO
                    have HB := Lib.hid hB
                    have hll : (lineB q (applyW frW (stq q (ps.take (k + 1))))).length = 64 := length_lineB q hlt _ (by rw [length_applyW, frW_length])
                    have hcid := fun n => HCI.out wr n hB
                    have hcnd := fun n => HCN.out wr n _ hO hll
                    have hci := hcid 0
                    have hcn := hcnd 0
                    rw [show wr.drewN 0 = wr from rfl] at hci hcn
                    have hdq := strEq (lineB_range q (applyW frW (stq q (ps.take (k + 1))))) (lineB_range q img)
                    obtain ⟨dd, hdd⟩ : ∃ dd, decide (lineB q (applyW frW (stq q (ps.take (k + 1)))) = lineB q img) = dd := ⟨_, rfl⟩
                    rw [hdd] at hdq HFB
                    have HNX : Hid (∀ n, CutR base g c2 q ps (k + 1) w7 (wr.drewN n)) := fun n => ⟨hO.drewN n, bl_drewN hB n⟩
                    clear hO hB hC hdd
                    cases fb with
                    | true =>
                      go_wp2
                      go_quiet (fail)
                      go_wp2
                      go_roundw
                      case rel => exact ⟨k + 1, by omega, by omega, by go_num, by rw [HFB.out]; rfl, HNX.out nq⟩
                      case measure => simp [intOf]; omega
                    | false =>
                      go_wp2
                      go_quiet (fail)
                      go_wp2
                      go_roundw
                      case rel => exact ⟨k + 1, by omega, by omega, by go_num, by rw [HFB.out]; rfl, HNX.out nq⟩
                      case measure => simp [intOf]; omega
              · have HSN : Hid (stq q (ps.take (k + 1)) = stq q (ps.take k)) := by
                  show _ = _
                  rw [HSQ.out, if_neg (by simpa [stP] using hst), List.append_nil]
                have HNX : Hid (CutR base g c2 q ps (k + 1) w7 V) := ⟨by rw [HSN.out]; exact HOV.out, HBV.out⟩
                have HFS := Lib.hid (foundB_same q frW ps (lineB q img) k HSN.out)
                have HST := Lib.hid hst
                clear hst
                by_cases ho1 : op = 1
                · subst ho1
                  obtain ⟨z, hz⟩ : ∃ z, of.tdiv 64 = z := ⟨_, rfl⟩
                  have hne : ¬ z = (q : Int) := by
                    rw [← hz, Int.tdiv_eq_ediv_of_nonneg hof.1]
                    exact fun h => HST.out ⟨rfl, h⟩
                  have hqw : IntKind.u64.wrap (q : Int) = (q : Int) := IntWalk.u64_in _ (by omega)
                  have hneb : (z == (q : Int)) = false := by simpa using hne
                  have hzw : IntKind.u64.wrap z = z := IntWalk.u64_in _ (by rw [← hz, Int.tdiv_eq_ediv_of_nonneg hof.1]; omega)
                  go_wp2
                  exact ⟨⟨k + 1, by omega, by omega, by go_num, by rw [HFS.out], HNX.out⟩, by simp [intOf]; omega⟩
                · go_wp2
                  go_roundw
                  case rel => exact ⟨k + 1, by omega, by omega, by go_num, by rw [HFS.out], HNX.out⟩
                  case measure => simp [intOf]; omega
          · obtain rfl : m = k := by omega
            rw [HFE.out m (.inl rfl) (Nat.le_refl _) hkn]
            go_wp2
            go_roundw
            case rel => exact ⟨q + 1, by omega, by go_num, HB.out⟩
            case measure => simp [intOf]; omega
      · obtain rfl : q = 4 := by omega
        go_wp2
        go_ret
        exact ⟨rfl, HB2.out.trans ((HB7.out.trans (HB.out.mono HB7.out.size)).mono HB2.out.size)⟩
end Go.Proofs.Ytngkhligjkcbmaa
