/- Format, Open and Look refuse; a crash of a clean device (merged). -/
import Derived.Test.YtjaohgnloddgfaaGreatDoorKma
import Derived.Test.YtjaohgnloddgfaaGreatDoorKmg
import Derived.Test.YtjaohgnloddgfaaGreatDoorKmh
namespace Go.Proofs.YtjaohgnloddgfaaGreatDoor
open Go.RowKit
set_option linter.unusedVariables false

/-- What Crash leaves: a new device, whose words are persistent words of a crash image. -/
def CrashPost (w : World) (S : DevS) (n : Nat) (e : Ending) (w' : World) : Prop :=
  ∃ d L K, e = .returned (.pointer (some ⟨d, 0, none⟩)) ∧ (∀ q l, S.lns[q]? = some l → K q ≤ l.hist.length) ∧ Dev w' d L (newS (S.upto K).pers n) ∧ (∀ b, Fp L b → w.heap.size ≤ b) ∧ Below w.heap.size w w'
set_option maxRecDepth 100000 in
set_option maxHeartbeats 2000000 in
theorem devCrash (w : World) (d : Nat) (S : DevS) (n : Nat) (h1 : 1 ≤ n) (h2 : n ≤ 4096) (hp : S.pers.length = 8 * n) (hf : ∀ K, (∀ q l, S.lns[q]? = some l → K q ≤ l.hist.length) → Fits (S.upto K).pers) (A : Option Addr) (m c : Nat)
    (hI : Calls Tryz.prog 82 #[.pointer (some ⟨d, 0, none⟩), .slice A m c] w (ImgPost w S)) :
    Calls Tryz.prog 42 #[.pointer (some ⟨d, 0, none⟩), .slice A m c] w (CrashPost w S n) := by
  have HI := Lib.hid hI
  have HF := Lib.hid hf
  have HP := Lib.hid hp
  clear hI hf hp
  go_enter Tryz.func42, Tryz.ntmps42
  go_wp2_with (first
    | (go_at_call 82; refine HI.out.mono ?_; rintro e w1 ⟨g, K, rfl, hK, hb, hg, hB⟩; rw [HP.out, show 8 * (8 * n) = 64 * n by omega]; have HK := Lib.hid hK; have HB := Lib.hid hb; have HG := Lib.hid hg; have HBL := Lib.hid hB; clear hK hb hg hB)
    | (go_at_call 81; refine (devFrom w1 (some ⟨g, 0, none⟩) n _ (S.upto K).pers h1 h2 (by rw [(length_upto K).1]; exact HP.out) (HF.out K HK.out) (.inr ⟨g, 0, rfl, HB.out.lt, fun i hi => by rw [Nat.zero_add]; exact HB.out.cell hi⟩)).mono ?_; rintro e w2 ⟨d2, L2, rfl, hD, hB2, hF2⟩; have HD := Lib.hid hD; have HB2 := Lib.hid hB2; have HF2 := Lib.hid hF2; clear hD hB2 hF2))
  go_ret
  exact ⟨d2, L2, K, rfl, HK.out, HD.out, fun b hb => Nat.le_trans HBL.out.size (HF2.out b hb), HBL.out.trans (HB2.out.mono HBL.out.size)⟩
end Go.Proofs.YtjaohgnloddgfaaGreatDoor

namespace Go.Proofs.YtjaohgnloddgfaaGreatDoor
open Go.RowKit
set_option linter.unusedVariables false
set_option linter.unusedSimpArgs false

section
variable {F : Nat → Prop} {d n N : Nat} {t : Nat → Nat} {w : World} {S : DevS} {xs : List Int}
set_option maxRecDepth 100000 in
theorem pwFormat_bad (h : DV F d t w S) (hnl : S.lns.length = n) (hn : n ≤ 999) (i : Nat) (hi : i < 8) (line lines : Int) (h1 : -100 ≤ line ∧ line ≤ 100) (h2 : -100 ≤ lines ∧ lines ≤ 100) (hb : rgB line lines n = false) :
    Calls Tryz.prog 39 #[.iface 57 (.pointer (some ⟨t i, 0, none⟩)), .int .i64 line, .int .i64 lines] w fun r w' => r = .returned (.int .i64 1) ∧ Below w.heap.size w w' := by
  have HSZ : Hid (∀ W, Below w.heap.size w W → Calls Tryz.prog 167 #[.pointer (some ⟨t i, 0, none⟩)] W fun e w' => e = .returned (.int .u64 ((n : Int) * 64)) ∧ W = w') := fun W hW => by
    have := vSize (h.below hW) i hi
    rwa [hnl] at this
  have HVA : Hid (∀ W, Calls Tryz.prog 73 #[.agg #[.int .i64 line, .int .i64 lines, .int .u64 ((n : Int) * 64)]] W fun e w' => e = .returned (.bool false) ∧ Below W.heap.size W w') := fun W => by
    have := rgValid W line lines n (by omega) (by omega) (by omega)
    rwa [hb] at this
  clear h hb hnl h1 h2
  go_enter Tryz.func39, Tryz.ntmps39
  go_wp2_with (first | (go_at_call 167; refine (HSZ.out _ (by (repeat (first | with_reducible exact Below.refl _ _ | with_reducible refine bl_alloc ?_ _ | with_reducible refine bl_drew ?_ | with_reducible refine bl_drewN ?_ _ | with_reducible refine bl_bx ?_ _ | with_reducible exact BX.below _ | with_reducible refine bl_set ?_ (by first | (exact Nat.le_refl _) | (simp; done) | (simp; omega)) _ | assumption)))).mono ?_; rintro e w' ⟨rfl, rfl⟩) | (go_at_call 73; refine (HVA.out _).mono ?_; rintro e w' ⟨rfl, hb⟩; obtain ⟨x, rfl⟩ := bx_of hb; clear hb))
  go_ret
  exact ⟨rfl, (by repeat (first | with_reducible exact Below.refl _ _ | with_reducible refine bl_alloc ?_ _ | with_reducible refine bl_drew ?_ | with_reducible refine bl_drewN ?_ _ | with_reducible refine bl_bx ?_ _ | with_reducible exact BX.below _ | with_reducible refine bl_set ?_ (by first | (exact Nat.le_refl _) | (simp; done) | (simp; omega)) _ | assumption))⟩
set_option maxRecDepth 100000 in
theorem pwOpen_bad (h : DV F d t w S) (hnl : S.lns.length = n) (hn : n ≤ 999) (line lines : Int) (h1 : -100 ≤ line ∧ line ≤ 100) (h2 : -100 ≤ lines ∧ lines ≤ 100) (hb : rgB line lines n = false) :
    Calls Tryz.prog 40 #[.pointer (some ⟨d, 0, none⟩), .int .i64 line, .int .i64 lines] w fun r w' => r = .returned (.tuple #[.pointer none, .int .i64 1]) ∧ Below w.heap.size w w' := by
  have HSZ : Hid (∀ W, Below w.heap.size w W → Calls Tryz.prog 78 #[.pointer (some ⟨d, 0, none⟩)] W fun e w' => e = .returned (.int .u64 ((n : Int) * 64)) ∧ W = w') := fun W hW => by
    have := vDevSize (h.below hW)
    rwa [hnl] at this
  have HVA : Hid (∀ W, Calls Tryz.prog 73 #[.agg #[.int .i64 line, .int .i64 lines, .int .u64 ((n : Int) * 64)]] W fun e w' => e = .returned (.bool false) ∧ Below W.heap.size W w') := fun W => by
    have := rgValid W line lines n (by omega) (by omega) (by omega)
    rwa [hb] at this
  clear h hb hnl h1 h2
  go_enter Tryz.func40, Tryz.ntmps40
  go_wp2_with (first | (go_at_call 78; refine (HSZ.out _ (by (repeat (first | with_reducible exact Below.refl _ _ | with_reducible refine bl_alloc ?_ _ | with_reducible refine bl_drew ?_ | with_reducible refine bl_drewN ?_ _ | with_reducible refine bl_bx ?_ _ | with_reducible exact BX.below _ | with_reducible refine bl_set ?_ (by first | (exact Nat.le_refl _) | (simp; done) | (simp; omega)) _ | assumption)))).mono ?_; rintro e w' ⟨rfl, rfl⟩) | (go_at_call 73; refine (HVA.out _).mono ?_; rintro e w' ⟨rfl, hb⟩; obtain ⟨x, rfl⟩ := bx_of hb; clear hb))
  exact bodyPost_ret (v := .tuple #[.pointer none, .int .i64 1]) (by simp [results, Tryz.results40, go_sem]) rfl ⟨rfl, (by repeat (first | with_reducible exact Below.refl _ _ | with_reducible refine bl_alloc ?_ _ | with_reducible refine bl_drew ?_ | with_reducible refine bl_drewN ?_ _ | with_reducible refine bl_bx ?_ _ | with_reducible exact BX.below _ | with_reducible refine bl_set ?_ (by first | (exact Nat.le_refl _) | (simp; done) | (simp; omega)) _ | assumption))⟩
theorem pwOpen_none (w : World) (line lines : Int) : Calls Tryz.prog 40 #[.pointer none, .int .i64 line, .int .i64 lines] w fun r w' => r = .returned (.tuple #[.pointer none, .int .i64 1]) ∧ w = w' := by
  go_enter Tryz.func40, Tryz.ntmps40
  go_wp2
  exact bodyPost_ret (v := .tuple #[.pointer none, .int .i64 1]) (by simp [results, Tryz.results40, go_sem]) rfl ⟨rfl, rfl⟩
set_option maxRecDepth 100000 in
theorem pwLook_bad (h : DV F d t w S) (hnl : S.lns.length = n) (hn : n ≤ 999) (i : Nat) (hi : i < 8) (line lines : Int) (h1 : -100 ≤ line ∧ line ≤ 100) (h2 : -100 ≤ lines ∧ lines ≤ 100) (hb : rgB line lines n = false) :
    Calls Tryz.prog 41 #[.iface 57 (.pointer (some ⟨t i, 0, none⟩)), .int .i64 line, .int .i64 lines] w fun r w' => r = .returned (.slice none 0 0) ∧ Below w.heap.size w w' := by
  have HSZ : Hid (∀ W, Below w.heap.size w W → Calls Tryz.prog 167 #[.pointer (some ⟨t i, 0, none⟩)] W fun e w' => e = .returned (.int .u64 ((n : Int) * 64)) ∧ W = w') := fun W hW => by
    have := vSize (h.below hW) i hi
    rwa [hnl] at this
  have HVA : Hid (∀ W, Calls Tryz.prog 73 #[.agg #[.int .i64 line, .int .i64 lines, .int .u64 ((n : Int) * 64)]] W fun e w' => e = .returned (.bool false) ∧ Below W.heap.size W w') := fun W => by
    have := rgValid W line lines n (by omega) (by omega) (by omega)
    rwa [hb] at this
  clear h hb hnl h1 h2
  go_enter Tryz.func41, Tryz.ntmps41
  go_wp2_with (first | (go_at_call 167; refine (HSZ.out _ (by (repeat (first | with_reducible exact Below.refl _ _ | with_reducible refine bl_alloc ?_ _ | with_reducible refine bl_drew ?_ | with_reducible refine bl_drewN ?_ _ | with_reducible refine bl_bx ?_ _ | with_reducible exact BX.below _ | with_reducible refine bl_set ?_ (by first | (exact Nat.le_refl _) | (simp; done) | (simp; omega)) _ | assumption)))).mono ?_; rintro e w' ⟨rfl, rfl⟩) | (go_at_call 73; refine (HVA.out _).mono ?_; rintro e w' ⟨rfl, hb⟩; obtain ⟨x, rfl⟩ := bx_of hb; clear hb))
  go_ret
  exact ⟨rfl, (by repeat (first | with_reducible exact Below.refl _ _ | with_reducible refine bl_alloc ?_ _ | with_reducible refine bl_drew ?_ | with_reducible refine bl_drewN ?_ _ | with_reducible refine bl_bx ?_ _ | with_reducible exact BX.below _ | with_reducible refine bl_set ?_ (by first | (exact Nat.le_refl _) | (simp; done) | (simp; omega)) _ | assumption))⟩
set_option maxRecDepth 100000 in
set_option maxHeartbeats 1000000 in
/-- All descriptors of a new pool are free. -/
theorem pwFreeA (w : World) (p bb m : Nat) (hm : m ≤ 1000) (pv : Array Value) (hp : w.cell? ⟨p, 4, none⟩ = some (.slice (some ⟨bb, 0, none⟩) m m)) (hpl : p < w.heap.size) (hbl : bb < w.heap.size) (hc : ∀ k, k < m → w.cell? ⟨bb, k, none⟩ = some (.bool false)) :
    Calls Tryz.prog 35 #[.pointer (some ⟨p, 0, none⟩)] w fun e w' => e = .returned (.int .i64 (m : Int)) ∧ w = w' := by
  have HC := Lib.hid hc
  clear hc
  go_enter Tryz.func35, Tryz.ntmps35
  go_wp2
  go_loopw [13, 3, 5, 14, 15, 16, 17, 18, 19, 20, 21] (fun i s _ _ _ _ _ _ _ _ _ wr => ∃ j : Nat, j ≤ m ∧ i = .int .i64 j ∧ s = .int .i64 (j : Int) ∧ wr = w) (fun i s _ _ _ _ _ _ _ _ _ _ => m - (intOf i).toNat)
  case atStart => exact ⟨0, by omega, rfl, rfl, rfl⟩
  case round =>
    obtain ⟨j, hj, rfl, rfl, rfl⟩ := hrel
    by_cases hlt : j < m
    · have hlt' : (j : Int) < (m : Int) := by omega
      have hc := HC.out j hlt
      go_wp2
      exact ⟨⟨j + 1, by omega, by go_num, by go_num, trivial⟩, by simp [intOf]; omega⟩
    · obtain rfl : j = m := by omega
      go_wp2
      go_ret
      exact ⟨rfl, rfl⟩
theorem upto_nil {S : DevS} {K : Nat → Nat} (h : ∀ q, ((S.lns[q]?.map (·.hist)).getD []).take (K q) = []) : (S.upto K).pers = S.pers := by
  apply List.ext_getElem?
  intro j
  by_cases hj : j < S.pers.length
  · rw [upto_pers _ j hj, h (j / 8)]; rfl
  · rw [List.getElem?_eq_none (by rw [(length_upto _).1]; omega), List.getElem?_eq_none (by omega)]
/-- A crash of a clean device loses nothing. -/
theorem crashN (h : DV F d t w S) (hc : Clean S n xs N) (hf : Fits xs) (h1 : 1 ≤ n) (h2 : n ≤ 4096) :
    Calls Tryz.prog 42 #[.pointer (some ⟨d, 0, none⟩), .slice none 0 0] w fun r w' => ∃ d' t', r = .returned (.pointer (some ⟨d', 0, none⟩)) ∧ DV (fun b => w.heap.size ≤ b) d' t' w' (newS xs n) ∧ Below w.heap.size w w' := by
  obtain ⟨_, L, rfl, hD, hF⟩ := h
  have hup : ∀ K, (S.upto K).pers = xs := fun K => by
    rw [upto_nil (fun q => ?_), hc.pers]
    cases hl : S.lns[q]? with
    | none => simp
    | some l => simp [hc.hist q l hl]
  refine (devCrash w d S n h1 h2 (by rw [hc.good.np, hc.nl]) (fun K _ => by rw [hup K]; exact hf) none 0 0 (devImage_nil w d L S hD (by rw [hc.pers]; exact hf) none)).mono ?_
  rintro r w' ⟨d', L', K, rfl, hK, hD', hF', hB⟩
  rw [hup K] at hD'
  exact ⟨d', L'.t, rfl, ⟨fun b hb => by have := hB.size; omega, L', rfl, hD', hF'⟩, hB⟩
end
end Go.Proofs.YtjaohgnloddgfaaGreatDoor
