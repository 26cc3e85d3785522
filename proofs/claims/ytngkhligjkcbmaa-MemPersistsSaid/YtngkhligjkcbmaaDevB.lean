/- Contracts of the functions of a device: errors, counting, loads. -/
import Derived.Test.YtngkhligjkcbmaaDevA
namespace Go.Proofs.Ytngkhligjkcbmaa
open Go.RowKit
set_option linter.unusedVariables false

def DevS.wordB (S : DevS) (off : Int) : Bool := decide (off % 8 = 0) && decide (off < (S.lns.length : Int) * 64)
/-- Is an instruction executed? -/
def DevS.onB (S : DevS) (valid : Bool) : Bool := !S.off && valid
def DevS.on (S : DevS) (i : Nat) (valid : Bool) : DevS := if S.off then S.fail i 3 else if valid then S else S.fail i 2

theorem ch_fp_t {w w' : World} {d : Nat} {L : Lay} {S : DevS} (h : Dev w d L S) {i : Nat} (hi : i < 8) (k : Nat) (v : Value) : Ch (Fp L) w (w.setCell ⟨L.t i, k, none⟩ v) :=
  (Ch.refl _ _).setCell (a := ⟨L.t i, k, none⟩) (.inl (by show Fp L (L.t i); unfold Fp; rw [h.rt i hi]; omega)) v
theorem ch_fp_d {w w' : World} {d : Nat} {L : Lay} {S : DevS} (h : Dev w d L S) (k : Nat) (v : Value) : Ch (Fp L) w (w.setCell ⟨d, k, none⟩ v) :=
  (Ch.refl _ _).setCell (a := ⟨d, k, none⟩) (.inl (by show Fp L d; unfold Fp; rw [h.rd]; omega)) v

set_option maxHeartbeats 400000 in
theorem thFail (w : World) (d : Nat) (L : Lay) (S : DevS) (h : Dev w d L S) (i : Nat) (hi : i < 8) (x : Int) :
    Calls Try.prog 107 #[.pointer (some ⟨L.t i, 0, none⟩), .int .i64 x] w fun e w' => e = .returned (.tuple #[]) ∧ Dev w' d L (S.fail i x) ∧ Ch (Fp L) w w' := by
  have h2 := h.t2 hi
  have hf := (h.thr i hi).frozen 2
  have hl := h.tlt hi
  have H := Lib.hid h
  clear h
  by_cases he : (S.thr i).err = 0
  · have he' : ((S.thr i).err == 0) = true := by simpa using he
    have HE : Hid (S.fail i x = S.setErr i x) := by show _ = _; unfold DevS.fail; rw [if_pos he]
    clear he
    go_enter Try.func107, Try.ntmps107
    go_wp2
    go_end0
    rw [HE.out]
    refine ⟨rfl, H.out.setThr hi (fun b _ hb => Below.heap_setCell w ⟨L.t i, 2, none⟩ _ b hb) (by simp) x ?_, ch_fp_t (w' := w) H.out hi 2 _⟩
    exact (H.out.thr i hi).set 2 (.int .i64 x)
  · have he' : ((S.thr i).err == 0) = false := by simpa using he
    have HE : Hid (S.fail i x = S) := by show _ = _; unfold DevS.fail; rw [if_neg he]
    clear he
    go_enter Try.func107, Try.ntmps107
    go_wp2
    go_end0
    rw [HE.out]
    exact ⟨rfl, H.out, Ch.refl _ _⟩

set_option maxHeartbeats 400000 in
theorem thOn (w : World) (d : Nat) (L : Lay) (S : DevS) (h : Dev w d L S) (i : Nat) (hi : i < 8) (valid : Bool) :
    Calls Try.prog 90 #[.pointer (some ⟨L.t i, 0, none⟩), .bool valid] w fun e w' => e = .returned (.bool (S.onB valid)) ∧ Dev w' d L (S.on i valid) ∧ Ch (Fp L) w w' := by
  have h0 := h.t0 hi
  have ho := h.ocell
  have hl := h.tlt hi
  have hl2 := h.lt
  have H := Lib.hid h
  clear h
  cases hO : S.off
  · rw [hO] at ho
    cases valid
    · have HE : Hid (S.onB false = false ∧ S.on i false = S.fail i 2) := by show _ ∧ _; simp [DevS.onB, DevS.on, hO]
      clear hO
      go_enter Try.func90, Try.ntmps90
      go_wp2_with (go_at_call 107; refine (thFail _ d L S H.out i hi 2).mono ?_; rintro e w' ⟨rfl, hD, hC⟩; have HD := Lib.hid hD; have HC := Lib.hid hC; clear hD hC)
      go_ret
      rw [HE.out.1, HE.out.2]
      exact ⟨rfl, HD.out, HC.out⟩
    · have HE : Hid (S.onB true = true ∧ S.on i true = S) := by show _ ∧ _; simp [DevS.onB, DevS.on, hO]
      clear hO
      go_enter Try.func90, Try.ntmps90
      go_wp2
      go_ret
      rw [HE.out.1, HE.out.2]
      exact ⟨rfl, H.out, Ch.refl _ _⟩
  · rw [hO] at ho
    have HE : Hid (S.onB valid = false ∧ S.on i valid = S.fail i 3) := by show _ ∧ _; simp [DevS.onB, DevS.on, hO]
    clear hO
    go_enter Try.func90, Try.ntmps90
    go_wp2_with (go_at_call 107; refine (thFail _ d L S H.out i hi 3).mono ?_; rintro e w' ⟨rfl, hD, hC⟩; have HD := Lib.hid hD; have HC := Lib.hid hC; clear hD hC)
    go_ret
    rw [HE.out.1, HE.out.2]
    exact ⟨rfl, HD.out, HC.out⟩

set_option maxHeartbeats 400000 in
theorem thWord (w : World) (d : Nat) (L : Lay) (S : DevS) (h : Dev w d L S) (i : Nat) (hi : i < 8) (off : Int) (hoff : 0 ≤ off ∧ off < 18446744073709551616) :
    Calls Try.prog 91 #[.pointer (some ⟨L.t i, 0, none⟩), .int .u64 off] w fun e w' => e = .returned (.bool (S.wordB off)) ∧ w = w' := by
  have h0 := h.t0 hi
  have hl := h.tlt hi
  have H := Lib.hid h
  obtain ⟨o1, o2⟩ := hoff
  clear h
  by_cases h8 : off % 8 = 0
  · have h8' : (off % 8 == 0) = true := by simpa using h8
    have HE : Hid (S.wordB off = decide (off < (S.lns.length : Int) * 64)) := by show _ = _; simp [DevS.wordB, h8]
    clear h8
    go_enter Try.func91, Try.ntmps91
    go_wp2_with (go_at_call 105; refine (devSize _ d L S H.out).mono ?_; rintro e w' ⟨rfl, rfl⟩)
    go_ret
    rw [HE.out]
    exact ⟨rfl, rfl⟩
  · have h8' : (off % 8 == 0) = false := by simpa using h8
    have HE : Hid (S.wordB off = false) := by show _ = _; simp [DevS.wordB, h8]
    clear h8
    go_enter Try.func91, Try.ntmps91
    go_wp2
    go_ret
    rw [HE.out]
    exact ⟨rfl, rfl⟩

/-- Is a counted instruction executed? -/
def DevS.cntB (S : DevS) (valid : Bool) : Bool := S.onB valid && !(S.armed && S.left == 0)
def DevS.cnt (S : DevS) (i : Nat) (valid : Bool) : DevS :=
  if S.onB valid = false then S.on i valid
  else if S.armed then (if S.left = 0 then DevS.fail { S with off := true } i 3 else { S with left := S.left - 1, exec := IntKind.u64.wrap (S.exec + 1) })
  else { S with exec := IntKind.u64.wrap (S.exec + 1) }
theorem wrap_u64_range (x : Int) : 0 ≤ IntKind.u64.wrap x ∧ IntKind.u64.wrap x < 18446744073709551616 := by rw [IntKind.wrap_u64]; omega

set_option maxHeartbeats 1000000 in
theorem thCounted (w : World) (d : Nat) (L : Lay) (S : DevS) (h : Dev w d L S) (i : Nat) (hi : i < 8) (valid : Bool) :
    Calls Try.prog 103 #[.pointer (some ⟨L.t i, 0, none⟩), .bool valid] w fun e w' => e = .returned (.bool (S.cntB valid)) ∧ Dev w' d L (S.cnt i valid) ∧ Ch (Fp L) w w' := by
  have H := Lib.hid h
  have hlf := h.lf
  clear h
  cases hon : S.onB valid
  · have HE : Hid (S.cntB valid = false ∧ S.cnt i valid = S.on i valid) := by show _ ∧ _; simp [DevS.cntB, DevS.cnt, hon]
    go_enter Try.func103, Try.ntmps103
    go_wp2_with (go_at_call 90; refine (thOn _ d L S H.out i hi valid).mono ?_; rw [hon]; rintro e w' ⟨rfl, hD, hC⟩; have HD := Lib.hid hD; have HC := Lib.hid hC; clear hD hC)
    go_ret
    rw [HE.out.1, HE.out.2]
    exact ⟨rfl, HD.out, HC.out⟩
  · have hSo : S.on i valid = S := by
      unfold DevS.onB at hon
      simp only [Bool.and_eq_true, Bool.not_eq_true'] at hon
      simp [DevS.on, hon.1, hon.2]
    have HSo := Lib.hid hSo
    have HON := Lib.hid hon
    clear hSo hon
    have hcall : Calls Try.prog 90 #[.pointer (some ⟨L.t i, 0, none⟩), .bool valid] w fun e w' => e = .returned (.bool true) ∧ Dev w' d L S ∧ Ch (Fp L) w w' := by
      have := thOn w d L S H.out i hi valid
      rwa [HON.out, HSo.out] at this
    have HCL := Lib.hid hcall
    clear hcall
    cases hA : S.armed
    · have HE : Hid (S.cntB valid = true ∧ S.cnt i valid = { S with exec := IntKind.u64.wrap (S.exec + 1) }) := by show _ ∧ _; simp [DevS.cntB, DevS.cnt, HON.out, hA]
      go_enter Try.func103, Try.ntmps103
      go_wp2_with (go_at_call 90; refine HCL.out.mono ?_; rintro e w1 ⟨rfl, hD, hC⟩; have k0 := hD.t0 hi; have k1 := hD.tlt hi; have k2 := hD.lt; have k3 := hD.acell; have k4 := hD.xcell; have k5 := hD.dev.frozen 14; rw [hA] at k3; have HD := Lib.hid hD; have HC := Lib.hid hC; clear hD hC)
      go_ret
      rw [HE.out.1, HE.out.2]
      refine ⟨rfl, HD.out.setDev (fun b _ hb => Below.heap_setCell w1 ⟨d, 14, none⟩ _ b hb) (by simp) S.off S.armed S.left _ HD.out.lf (wrap_u64_range _) ?_, HC.out.trans (ch_fp_d (w' := w) HD.out 14 _) (fun _ h _ => h)⟩
      exact HD.out.dev.set 14 _
    · by_cases hz : S.left = 0
      · have HE : Hid (S.cntB valid = false ∧ S.cnt i valid = DevS.fail { S with off := true } i 3) := by show _ ∧ _; simp [DevS.cntB, DevS.cnt, HON.out, hA, hz]
        have HZ := Lib.hid hz
        clear hz
        go_enter Try.func103, Try.ntmps103
        go_wp2_with (go_at_call 90; refine HCL.out.mono ?_; rintro e w1 ⟨rfl, hD, hC⟩; have k0 := hD.t0 hi; have k1 := hD.tlt hi; have k2 := hD.lt; have k3 := hD.acell; have k4 := hD.fcell; have k6 := hD.ocell; have k5 := hD.dev.frozen 11; rw [hA] at k3; rw [HZ.out] at k4; have HD := Lib.hid hD; have HC := Lib.hid hC; clear hD hC)
        have hD2 : Dev (w1.setCell ⟨d, 11, none⟩ (.bool true)) d L { S with off := true } := HD.out.setDev (fun b _ hb => Below.heap_setCell w1 ⟨d, 11, none⟩ _ b hb) (by simp) true S.armed S.left S.exec HD.out.lf HD.out.ex (HD.out.dev.set 11 _)
        refine (thFail _ d L { S with off := true } hD2 i hi 3).mono ?_
        rintro e w2 ⟨rfl, hD3, hC3⟩
        have HD3 := Lib.hid hD3
        have HC3 := Lib.hid hC3
        clear hD2 hD3 hC3
        go_wp2
        go_ret
        rw [HE.out.1, HE.out.2]
        exact ⟨rfl, HD3.out, (HC.out.trans (ch_fp_d (w' := w) HD.out 11 _) (fun _ h _ => h)).trans HC3.out (fun _ h _ => h)⟩
      · have HE : Hid (S.cntB valid = true ∧ S.cnt i valid = { S with left := S.left - 1, exec := IntKind.u64.wrap (S.exec + 1) }) := by show _ ∧ _; simp [DevS.cntB, DevS.cnt, HON.out, hA, hz]
        have hz' : (S.left == 0) = false := by simpa using hz
        have hl1 : 1 ≤ S.left := by omega
        have hl2 : S.left ≤ 9223372036854775807 := by omega
        clear hz
        go_enter Try.func103, Try.ntmps103
        go_wp2_with (go_at_call 90; refine HCL.out.mono ?_; rintro e w1 ⟨rfl, hD, hC⟩; have k0 := hD.t0 hi; have k1 := hD.tlt hi; have k2 := hD.lt; have k3 := hD.acell; have k4 := hD.fcell; have k6 := hD.xcell; have k5 := hD.dev.frozen 13; have k7 := hD.dev.frozen 14; rw [hA] at k3; have HD := Lib.hid hD; have HC := Lib.hid hC; clear hD hC)
        go_ret
        rw [HE.out.1, HE.out.2]
        refine ⟨rfl, HD.out.setDev (fun b _ hb => (Below.heap_setCell _ ⟨d, 14, none⟩ _ b hb).trans (Below.heap_setCell w1 ⟨d, 13, none⟩ _ b hb)) (by simp) S.off S.armed _ _ (by omega) (wrap_u64_range _) ?_, (HC.out.trans (ch_fp_d (w' := w) HD.out 13 _) (fun _ h _ => h)).setCell (a := ⟨d, 14, none⟩) (.inl (by show Fp L d; unfold Fp; rw [HD.out.rd]; omega)) _⟩
        exact (HD.out.dev.set 13 _).set 14 _

end Go.Proofs.Ytngkhligjkcbmaa
