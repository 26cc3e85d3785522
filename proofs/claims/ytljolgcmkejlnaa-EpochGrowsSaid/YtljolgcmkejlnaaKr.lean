/- Bytes of words, and the contracts of a device's crash (merged). -/
import Derived.Test.YtljolgcmkejlnaaLib
import Derived.Laws.BitsAllLaws
import Derived.Test.YtljolgcmkejlnaaDevO
import Derived.Deep.Cut
import Derived.Test.YtljolgcmkejlnaaMemA
namespace Go.Proofs.Ytljolgcmkejlnaa
open Go.RowKit
set_option linter.unusedVariables false

/-- All words fit. -/
def Fits (ws : List Int) : Prop := ∀ x ∈ ws, 0 ≤ x ∧ x < 18446744073709551616
def byteAt (ws : List Int) (i : Nat) : Int := ws[i / 8]?.getD 0 / 2 ^ (i % 8 * 8) % 256
/-- The little-endian bytes of words. -/
def bytesL (ws : List Int) : List Int := (List.range (8 * ws.length)).map (byteAt ws)
theorem length_bytesL (ws : List Int) : (bytesL ws).length = 8 * ws.length := by simp [bytesL]
theorem bytesL_getq (ws : List Int) (i : Nat) (h : i < 8 * ws.length) : (bytesL ws)[i]? = some (byteAt ws i) := by
  simp [bytesL, h]
theorem bytesL_get (ws : List Int) (i : Nat) (h : i < (bytesL ws).length) : (bytesL ws)[i] = byteAt ws i := by
  simp [bytesL]
theorem byteAt_range (ws : List Int) (i : Nat) : 0 ≤ byteAt ws i ∧ byteAt ws i < 256 := by unfold byteAt; omega
theorem Fits.getD {ws : List Int} (h : Fits ws) (i : Nat) : 0 ≤ ws[i]?.getD 0 ∧ ws[i]?.getD 0 < 18446744073709551616 := by
  by_cases hi : i < ws.length
  · rw [List.getElem?_eq_getElem hi]; exact h _ (List.getElem_mem hi)
  · rw [List.getElem?_eq_none (by omega)]; exact ⟨Int.le_refl _, by decide⟩
theorem Fits.set {ws : List Int} (h : Fits ws) (i : Nat) {v : Int} (hv : 0 ≤ v ∧ v < 18446744073709551616) : Fits (ws.set i v) := by
  intro x hx
  rcases List.mem_or_eq_of_mem_set hx with h1 | h1
  · exact h x h1
  · rw [h1]; exact hv
theorem Fits.zeros (n : Nat) : Fits (List.replicate n 0) := by
  intro x hx
  rw [(List.mem_replicate.1 hx).2]; exact ⟨Int.le_refl _, by decide⟩

/-- The bytes of which k are laid. -/
def byPad (ws : List Int) (k : Nat) : List Int := (bytesL ws).take k ++ List.replicate (8 * ws.length - k) 0
theorem byPad_zero (ws : List Int) : byPad ws 0 = List.replicate (8 * ws.length) 0 := by simp [byPad]
theorem byPad_all (ws : List Int) : byPad ws (8 * ws.length) = bytesL ws := by
  unfold byPad
  rw [List.take_of_length_le (by rw [length_bytesL]; omega), Nat.sub_self]; simp
theorem length_byPad (ws : List Int) (k : Nat) (hk : k ≤ 8 * ws.length) : (byPad ws k).length = 8 * ws.length := by simp [byPad, length_bytesL]; omega
theorem byPad_set (ws : List Int) (k : Nat) (hk : k < 8 * ws.length) : (byPad ws k).set k (byteAt ws k) = byPad ws (k + 1) := by
  have hkl : k < (bytesL ws).length := by rw [length_bytesL]; exact hk
  unfold byPad
  rw [List.take_succ_eq_append_getElem hkl, bytesL_get, List.set_append_right _ _ (by simp; omega)]
  obtain ⟨m, hm⟩ : ∃ m, 8 * ws.length - k = m + 1 := ⟨8 * ws.length - k - 1, by omega⟩
  have e1 : k - ((bytesL ws).take k).length = 0 := by simp; omega
  rw [e1, hm, List.replicate_succ, List.set_cons_zero, show 8 * ws.length - (k + 1) = m by omega]
  simp

/-- The words of which i bytes are laid. -/
def partAt (ws : List Int) (i j : Nat) : Int := ws[j]?.getD 0 % 2 ^ (8 * min 8 (i - 8 * j))
def partW (ws : List Int) (i : Nat) : List Int := (List.range ws.length).map (partAt ws i)
theorem length_partW (ws : List Int) (i : Nat) : (partW ws i).length = ws.length := by simp [partW]
theorem partW_get (ws : List Int) (i j : Nat) (h : j < ws.length) : (partW ws i)[j]? = some (partAt ws i j) := by simp [partW, h]
theorem partW_zero (ws : List Int) : partW ws 0 = List.replicate ws.length 0 := by
  apply List.ext_getElem?
  intro j
  by_cases h : j < ws.length
  · rw [partW_get ws 0 j h]; simp [h, partAt]
  · rw [List.getElem?_eq_none (by rw [length_partW]; omega), List.getElem?_eq_none (by simp; omega)]
theorem partW_all (ws : List Int) (hf : Fits ws) : partW ws (8 * ws.length) = ws := by
  apply List.ext_getElem?
  intro j
  by_cases h : j < ws.length
  · rw [partW_get ws _ j h, List.getElem?_eq_getElem h]
    have hb := hf _ (List.getElem_mem h)
    unfold partAt
    rw [List.getElem?_eq_getElem h, show min 8 (8 * ws.length - 8 * j) = 8 by omega]
    simp only [Option.getD_some, Nat.reduceMul, Int.reducePow]
    congr 1
    omega
  · rw [List.getElem?_eq_none (by rw [length_partW]; omega), List.getElem?_eq_none (by omega)]
theorem partAt_now (ws : List Int) (i : Nat) : partAt ws i (i / 8) = ws[i / 8]?.getD 0 % 2 ^ (i % 8 * 8) := by
  unfold partAt
  rw [show min 8 (i - 8 * (i / 8)) = i % 8 by omega, Nat.mul_comm]
theorem partW_step (ws : List Int) (i : Nat) (hi : i < 8 * ws.length) : (partW ws i).set (i / 8) (ws[i / 8]?.getD 0 % 2 ^ ((i % 8 + 1) * 8)) = partW ws (i + 1) := by
  have hl : i / 8 < ws.length := by omega
  apply List.ext_getElem?
  intro j
  rw [List.getElem?_set]
  by_cases hj : i / 8 = j
  · subst hj
    rw [if_pos rfl, if_pos (by rw [length_partW]; exact hl), partW_get ws _ _ hl]
    unfold partAt
    rw [show min 8 (i + 1 - 8 * (i / 8)) = i % 8 + 1 by omega, Nat.mul_comm]
  · rw [if_neg hj]
    by_cases h : j < ws.length
    · rw [partW_get ws i j h, partW_get ws _ j h]
      unfold partAt
      rw [show min 8 (i + 1 - 8 * j) = min 8 (i - 8 * j) by omega]
    · rw [List.getElem?_eq_none (by rw [length_partW]; omega), List.getElem?_eq_none (by rw [length_partW]; omega)]
/-- A byte is laid into a word. -/
theorem or_byte (v : Int) (hv : 0 ≤ v ∧ v < 18446744073709551616) (s : Nat) (hs : s < 8) : bits .or .u64 (v % 2 ^ (s * 8)) (IntKind.u64.wrap (v / 2 ^ (s * 8) % 256 * 2 ^ (s * 8))) = v % 2 ^ ((s + 1) * 8) := by
  obtain ⟨n, rfl⟩ := Int.eq_ofNat_of_zero_le hv.1
  have hp : ∀ k : Nat, (2 : Int) ^ k = ((2 ^ k : Nat) : Int) := fun k => (Int.natCast_pow 2 k).symm
  have key : n % 2 ^ (s * 8) + 2 ^ (s * 8) * (n / 2 ^ (s * 8) % 256) = n % 2 ^ ((s + 1) * 8) := by
    rw [show (s + 1) * 8 = s * 8 + 8 by omega, Nat.pow_add, Nat.mod_mul]
  have hlt : n % 2 ^ (s * 8) < 2 ^ (s * 8) := Nat.mod_lt _ (Nat.two_pow_pos _)
  have h64 : n % 2 ^ ((s + 1) * 8) < 18446744073709551616 := Nat.lt_of_le_of_lt (Nat.mod_le _ _) (by omega)
  have h2 := Nat.two_pow_add_eq_or_of_lt hlt (n / 2 ^ (s * 8) % 256)
  rw [hp (s * 8), hp ((s + 1) * 8)]
  generalize 2 ^ (s * 8) = a at *
  generalize 2 ^ ((s + 1) * 8) = b at *
  have e1 : ((n : Nat) : Int) / (a : Int) % 256 * (a : Int) = ((a * (n / a % 256) : Nat) : Int) := by
    rw [Int.natCast_mul, Int.natCast_emod, Int.natCast_ediv, Int.mul_comm]; rfl
  have e2 : ((n : Nat) : Int) % (a : Int) = ((n % a : Nat) : Int) := (Int.natCast_emod n a).symm
  have e3 : ((n : Nat) : Int) % (b : Int) = ((n % b : Nat) : Int) := (Int.natCast_emod n b).symm
  rw [e1, e2, e3, IntWalk.u64_in _ (by omega), bits_or_u64_nat _ _ (by omega) (by omega), Nat.or_comm, ← h2]
  congr 1
  omega
end Go.Proofs.Ytljolgcmkejlnaa

namespace Go.Proofs.Ytljolgcmkejlnaa
open Go.RowKit
set_option linter.unusedVariables false

theorem info_u8d : (Try.prog.info? 5).map (fun i => (i.zero, i.size, i.bytes)) = some (some (.int .u8 0), 1, 1) := by kernel_rfl
set_option maxRecDepth 100000 in
set_option maxHeartbeats 2000000 in
theorem bytesOfD (w : World) (A : Option Addr) (n c : Nat) (ws : List Int) (hn : ws.length = n) (hb : n ≤ 32768) (hf : Fits ws) (hR : Rd .u64 w A ws) :
    Calls Try.prog 63 #[.slice A n c] w fun e w' => ∃ g, e = .returned (.slice (some ⟨g, 0, none⟩) (8 * n) (8 * n)) ∧ IB .u8 5 w' g (bytesL ws) ∧ w.heap.size ≤ g ∧ Below w.heap.size w w' := by
  have HR := Lib.hid hR
  have HN := Lib.hid hn
  have HF := Lib.hid hf
  have hmk := fun W => run_make_z (P := Try.prog) 55 5 .u8 .i64 .i64 ((n : Int) * 8) (8 * n) (by omega) Try.underlying55 1 info_u8d (by omega) (by omega) W
  clear hR hn hf
  go_enter Try.func63, Try.ntmps63
  go_wp2
  have HI0 : Hid (IB .u8 5 (w.alloc (.cells (ia .u8 (List.replicate (8 * n) (0 : Int))) 5)) w.heap.size (byPad ws 0)) := by
    show IB _ _ _ _ _
    rw [byPad_zero, HN.out]; exact IB.new _ _
  have HB0 : Hid (Below w.heap.size w (w.alloc (.cells (ia .u8 (List.replicate (8 * n) (0 : Int))) 5))) := by show Below _ _ _; (repeat (first | with_reducible exact Below.refl _ _ | with_reducible refine bl_alloc ?_ _ | with_reducible refine bl_drew ?_ | with_reducible refine bl_drewN ?_ _ | with_reducible refine bl_bx ?_ _ | with_reducible exact BX.below _ | with_reducible refine bl_set ?_ (by first | (exact Nat.le_refl _) | (simp; done) | (simp; omega)) _ | assumption))
  obtain ⟨g, hg⟩ : ∃ g, w.heap.size = g := ⟨_, rfl⟩
  obtain ⟨W, hW⟩ : ∃ W, w.alloc (.cells (ia .u8 (List.replicate (8 * n) (0 : Int))) 5) = W := ⟨_, rfl⟩
  rw [hg, hW] at HI0
  rw [hW] at HB0
  rw [hg, hW]
  have HG := Lib.hid hg
  clear hW hg hmk
  go_loopw [11, 4, 12, 13, 14, 15, 16, 17, 18, 19, 20, 21, 22, 23, 24, 25, 26, 27, 28] (fun i _ _ _ _ _ _ _ _ _ _ _ _ _ _ _ _ _ _ wr => ∃ k : Nat, k ≤ 8 * n ∧ i = .int .i64 k ∧ IB .u8 5 wr g (byPad ws k) ∧ Below w.heap.size w wr) (fun i _ _ _ _ _ _ _ _ _ _ _ _ _ _ _ _ _ _ _ => 8 * n - (intOf i).toNat)
  case atStart => exact ⟨0, by omega, rfl, HI0.out, HB0.out⟩
  case round =>
    clear HI0 HB0
    obtain ⟨k, hk, rfl, hI, hB⟩ := hrel
    by_cases hlt : k < 8 * n
    · have hlt' : (k : Int) < 8 * (n : Int) := by omega
      have hk8 : k / 8 < ws.length := by rw [HN.out]; omega
      have hkn : k / 8 < n := by omega
      obtain ⟨b, o, rfl, hbb, hc⟩ := HR.out.at_ hk8
      have hbw := hB.size
      have hc' : wr.cell? ⟨b, o + k / 8, none⟩ = some (.int .u64 ws[k / 8]) := (hB.cell (p := ⟨b, o + k / 8, none⟩) hbb).trans hc
      have hbl : b < wr.heap.size := by omega
      have hcg := hI.cell (i := k) (by rw [length_byPad ws k (by rw [HN.out]; omega), HN.out]; exact hlt)
      have hfz := hI.frozen k
      have hgl := hI.lt
      have hgg : b ≠ g := by rw [← HG.out]; omega
      have HBY : Hid (ws[k / 8] / 2 ^ (k % 8 * 8) % 256 = byteAt ws k) := by
        show _ = _
        unfold byteAt
        rw [List.getElem?_eq_getElem hk8]; rfl
      have HST := Lib.hid (byPad_set ws k (by rw [HN.out]; exact hlt))
      obtain ⟨v, hv⟩ : ∃ v, ws[k / 8] = v := ⟨_, rfl⟩
      rw [hv] at hc' HBY
      have HI := Lib.hid hI
      have HB := Lib.hid hB
      clear hv hc hI hB
      go_wp2
      rw [HBY.out]
      refine ⟨⟨k + 1, by omega, by go_num, ?_, HB.out.setCell (p := ⟨g, k, none⟩) (by show w.heap.size ≤ g; rw [HG.out]; exact Nat.le_refl _) _⟩, by simp [intOf]; omega⟩
      rw [← HST.out]
      exact HI.out.set k _
    · obtain rfl : k = 8 * n := by omega
      have hI' : IB .u8 5 wr g (bytesL ws) := by
        have := hI
        rwa [show 8 * n = 8 * ws.length by rw [HN.out], byPad_all] at this
      have HI := Lib.hid hI'
      have HB := Lib.hid hB
      clear hI hB hI'
      go_wp2
      go_ret
      exact ⟨g, rfl, HI.out, by rw [← HG.out]; exact Nat.le_refl _, HB.out⟩
end Go.Proofs.Ytljolgcmkejlnaa

namespace Go.Proofs.Ytljolgcmkejlnaa
open Go.RowKit
set_option linter.unusedVariables false

/-- What From leaves. -/
def FromPost (w : World) (S : DevS) (e : Ending) (w' : World) : Prop :=
  ∃ d L, e = .returned (.tuple #[.pointer (some ⟨d, 0, none⟩), .int .i64 0]) ∧ Dev w' d L S ∧ Below w.heap.size w w' ∧ ∀ b, Fp L b → w.heap.size ≤ b
set_option maxRecDepth 100000 in
set_option maxHeartbeats 2000000 in
theorem devFrom (w : World) (A : Option Addr) (n c : Nat) (ws : List Int) (h1 : 1 ≤ n) (h2 : n ≤ 4096) (hw : ws.length = 8 * n) (hf : Fits ws) (hR : Rd .u8 w A (bytesL ws)) :
    Calls Try.prog 49 #[.slice A (64 * n) c] w (FromPost w (newS ws n)) := by
  have HR := Lib.hid hR
  have HN := Lib.hid hw
  have HF := Lib.hid hf
  have hmk := fun W => run_make_z (P := Try.prog) 84 25 .u64 .i64 .i64 (8 * (n : Int)) (8 * n) (by omega) Try.underlying84 8 info_u64 (by omega) (by omega) W
  have q1 : (64 * (n : Int)) % 64 = 0 := by omega
  have q2 : (64 * (n : Int)) / 64 = (n : Int) := by omega
  have q3 : (64 * (n : Int)) / 8 = 8 * (n : Int) := by omega
  have q4 : ¬ (n : Int) > 4096 := by omega
  have q5 : ((64 * (n : Int)) == 0) = false := by simp; omega
  clear hR hw hf
  go_enter Try.func49, Try.ntmps49
  go_wp2
  have HI0 : Hid (IB .u64 25 (w.alloc (.cells (ia .u64 (List.replicate (8 * n) (0 : Int))) 25)) w.heap.size (partW ws 0)) := by
    show IB _ _ _ _ _
    rw [partW_zero, HN.out]; exact IB.new _ _
  have HB0 : Hid (Below w.heap.size w (w.alloc (.cells (ia .u64 (List.replicate (8 * n) (0 : Int))) 25))) := by show Below _ _ _; (repeat (first | with_reducible exact Below.refl _ _ | with_reducible refine bl_alloc ?_ _ | with_reducible refine bl_drew ?_ | with_reducible refine bl_drewN ?_ _ | with_reducible refine bl_bx ?_ _ | with_reducible exact BX.below _ | with_reducible refine bl_set ?_ (by first | (exact Nat.le_refl _) | (simp; done) | (simp; omega)) _ | assumption))
  obtain ⟨g, hg⟩ : ∃ g, w.heap.size = g := ⟨_, rfl⟩
  obtain ⟨W, hW⟩ : ∃ W, w.alloc (.cells (ia .u64 (List.replicate (8 * n) (0 : Int))) 25) = W := ⟨_, rfl⟩
  rw [hg, hW] at HI0
  rw [hW] at HB0
  rw [hg, hW]
  have HG := Lib.hid hg
  clear hW hg hmk
  go_loopw [26, 5, 6, 27, 28, 29, 30, 31, 32, 33, 34, 35, 36, 37, 38, 39, 40, 41, 42, 43, 44, 45] (fun i _ _ _ _ _ _ _ _ _ _ _ _ _ _ _ _ _ _ _ _ _ wr => ∃ k : Nat, k ≤ 64 * n ∧ i = .int .i64 k ∧ IB .u64 25 wr g (partW ws k) ∧ Below w.heap.size w wr) (fun i _ _ _ _ _ _ _ _ _ _ _ _ _ _ _ _ _ _ _ _ _ _ => 64 * n - (intOf i).toNat)
  case atStart => exact ⟨0, by omega, rfl, HI0.out, HB0.out⟩
  case round =>
    clear HI0 HB0
    obtain ⟨k, hk, rfl, hI, hB⟩ := hrel
    by_cases hlt : k < 64 * n
    · have hlt' : (k : Int) < 64 * (n : Int) := by omega
      have hk8 : k / 8 < ws.length := by rw [HN.out]; omega
      have hkn : k / 8 < 8 * n := by omega
      have hkb : k < (bytesL ws).length := by rw [length_bytesL, HN.out]; omega
      obtain ⟨b, o, rfl, hbb, hc⟩ := HR.out.at_ hkb
      rw [bytesL_get] at hc
      have hbw := hB.size
      have hc' : wr.cell? ⟨b, o + k, none⟩ = some (.int .u8 (byteAt ws k)) := (hB.cell (p := ⟨b, o + k, none⟩) hbb).trans hc
      have hbl : b < wr.heap.size := by omega
      have hcg : wr.cell? ⟨g, k / 8, none⟩ = some (.int .u64 (ws[k / 8] % 2 ^ (k % 8 * 8))) := by
        have h3 := hI.cell (i := k / 8) (by rw [length_partW]; exact hk8)
        have h4 := partW_get ws k (k / 8) hk8
        rw [partAt_now, List.getElem?_eq_getElem hk8] at h4
        rw [List.getElem?_eq_getElem (by rw [length_partW]; exact hk8)] at h4
        injection h4 with h4
        rw [h4] at h3
        exact h3
      have hfz := hI.frozen (k / 8)
      have hgl := hI.lt
      have hgg : b ≠ g := by rw [← HG.out]; omega
      have hvr := HF.out _ (List.getElem_mem hk8)
      have hor := or_byte ws[k / 8] hvr (k % 8) (by omega)
      have hbyt : byteAt ws k = ws[k / 8] / 2 ^ (k % 8 * 8) % 256 := by unfold byteAt; rw [List.getElem?_eq_getElem hk8]; rfl
      rw [← hbyt] at hor
      have hbr := byteAt_range ws k
      have HST := Lib.hid (partW_step ws k (by rw [HN.out]; omega))
      rw [List.getElem?_eq_getElem hk8] at HST
      obtain ⟨bt, hbt⟩ : ∃ bt, byteAt ws k = bt := ⟨_, rfl⟩
      obtain ⟨od, hod⟩ : ∃ od, ws[k / 8] % 2 ^ (k % 8 * 8) = od := ⟨_, rfl⟩
      obtain ⟨nw, hnw⟩ : ∃ nw, ws[k / 8] % 2 ^ ((k % 8 + 1) * 8) = nw := ⟨_, rfl⟩
      rw [hbt] at hc' hor hbr
      rw [hod] at hcg hor
      rw [hnw] at hor
      have HST2 : Hid ((partW ws k).set (k / 8) nw = partW ws (k + 1)) := by
        show _ = _
        rw [← hnw]; exact HST.out
      have e1 : IntKind.u64.wrap bt = bt := IntWalk.u64_in _ (by omega)
      have HI := Lib.hid hI
      have HB := Lib.hid hB
      clear hc hI hB hbt hod hnw hbyt hvr HST
      go_wp2
      refine ⟨⟨k + 1, by omega, by go_num, ?_, HB.out.setCell (p := ⟨g, k / 8, none⟩) (by show w.heap.size ≤ g; rw [HG.out]; exact Nat.le_refl _) _⟩, by simp [intOf]; omega⟩
      rw [← HST2.out]
      exact HI.out.set (k / 8) _
    · obtain rfl : k = 64 * n := by omega
      have hI' : IB .u64 25 wr g ws := by
        have := hI
        rwa [show 64 * n = 8 * ws.length by rw [HN.out]; omega, partW_all ws HF.out] at this
      have HI := Lib.hid hI'
      have HB := Lib.hid hB
      clear hI hB hI'
      go_wp2_with (go_at_call 40; refine (devOf _ g n ws HI.out HN.out h1 h2).mono ?_; rintro e w2 ⟨d, L, rfl, hD, hb, hF⟩; have HD := Lib.hid hD; have HB2 := Lib.hid hb; have HFP := Lib.hid hF; clear hD hb hF)
      go_ret2
      refine ⟨d, L, rfl, HD.out, HB.out.trans (HB2.out.mono HB.out.size), fun b hb => ?_⟩
      rcases HFP.out b hb with h | h
      · rw [h, ← HG.out]; exact Nat.le_refl _
      · exact Nat.le_trans HB.out.size h
end Go.Proofs.Ytljolgcmkejlnaa

namespace Go.Proofs.Ytljolgcmkejlnaa
open Go.RowKit
set_option linter.unusedVariables false

theorem info_int : (Try.prog.info? 3).map (fun i => (i.zero, i.size, i.bytes)) = some (some (.int .i64 0), 1, 8) := by kernel_rfl
theorem cellsI_one (w : World) (e : TypeId) (a : Value) : ∀ (j : Nat) (u : Value), [a][j]? = some u → (w.alloc (.cells #[a] e)).cell? ((⟨w.heap.size, 0, none⟩ : Addr).add j) = some u := by
  intro j u hu
  have h1 : (⟨w.heap.size, 0, none⟩ : Addr).add j = ⟨w.heap.size, 0 + j, none⟩ := by unfold Addr.add; split <;> simp_all
  rw [h1, Nat.zero_add, (CB.new w e #[a]).cell]
  simpa using hu
theorem i64_one (a : Int) : ∀ u ∈ ([.int .i64 a] : List Value), u.oneCell' = true := by
  intro u hu
  simp only [List.mem_singleton] at hu
  subst hu; rfl
/-- The number of stores of a line that are not persistent. -/
def hlen (S : DevS) (q : Nat) : Nat := (S.lns[q]?.map (·.hist.length)).getD 0
def dirtyL (S : DevS) (k : Nat) : List Nat := (List.range k).filter fun q => decide (0 < hlen S q)
theorem dirtyL_step (S : DevS) (k : Nat) : dirtyL S (k + 1) = dirtyL S k ++ (if 0 < hlen S k then [k] else []) := by
  unfold dirtyL
  rw [List.range_succ, List.filter_append]
  by_cases h : 0 < hlen S k
  · simp [h]
  · simp [h]
theorem dirtyL_le (S : DevS) : ∀ k, (dirtyL S k).length ≤ k := by
  intro k
  exact Nat.le_trans (List.length_filter_le _ _) (by simp)
def nints (xs : List Nat) : List Value := xs.map fun (q : Nat) => Value.int .i64 (q : Int)
theorem length_nints (xs : List Nat) : (nints xs).length = xs.length := by simp [nints]
/-- What Dirty leaves. -/
def DirtyPost (w : World) (S : DevS) (e : Ending) (w' : World) : Prop :=
  ∃ A c, e = .returned (.slice A (dirtyL S S.lns.length).length c) ∧ Sl 3 1 w' A (dirtyL S S.lns.length).length c (nints (dirtyL S S.lns.length)) ∧ (∀ b, OwnB A b → w.heap.size ≤ b) ∧ Below w.heap.size w w'
set_option maxRecDepth 100000 in
set_option maxHeartbeats 2000000 in
theorem devDirty (w : World) (d : Nat) (L : Lay) (S : DevS) (h : Dev w d L S) :
    Calls Try.prog 61 #[.pointer (some ⟨d, 0, none⟩)] w (DirtyPost w S) := by
  have l2 := h.lcell
  have dl := h.lt
  obtain ⟨cs, hcb, hsz, hcs⟩ := h.lin
  obtain ⟨n, hn⟩ : ∃ n, S.lns.length = n := ⟨_, rfl⟩
  have hn2 : n ≤ 4096 := by rw [← hn]; exact h.nl.2
  have HCL : Hid (∀ q, q < n → w.cell? ⟨L.lb, q * 2 + 1, none⟩ = some (.slice (L.ha q) (hlen S q) (L.hc q))) := by
    intro q hq
    have hq' : q < S.lns.length := by omega
    rw [hcb.cell, show q * 2 + 1 = 2 * q + 1 by omega, (hcs q hq').2]
    unfold hlen
    rw [List.getElem?_eq_getElem hq']; rfl
  have lbl := hcb.lt
  rw [hn] at l2
  unfold DirtyPost
  rw [hn]
  clear h hcb hsz hcs
  go_enter Try.func61, Try.ntmps61
  go_wp2
  go_loopw [12, 3, 4, 13, 14, 15, 16, 17, 18, 19, 20, 21, 22, 23, 24, 25, 26, 27, 28, 29] (fun i s _ _ _ _ _ _ _ _ _ _ _ _ _ _ _ _ _ _ wr => ∃ (k : Nat) (A : Option Addr) (c : Nat), k ≤ n ∧ i = .int .i64 k ∧ s = .slice A (dirtyL S k).length c ∧ Sl 3 1 wr A (dirtyL S k).length c (nints (dirtyL S k)) ∧ (∀ b, OwnB A b → w.heap.size ≤ b) ∧ Below w.heap.size w wr) (fun i _ _ _ _ _ _ _ _ _ _ _ _ _ _ _ _ _ _ _ _ => n - (intOf i).toNat)
  case atStart => exact ⟨0, none, 0, by omega, rfl, rfl, Sl.nil, fun b hb => by simp [OwnB] at hb, Below.refl _ _⟩
  case round =>
    obtain ⟨k, A, c, hk, rfl, rfl, hS, hO, hB⟩ := hrel
    have HS := Lib.hid hS
    have HO := Lib.hid hO
    have HB := Lib.hid hB
    have l2' : wr.cell? ⟨d, 2, none⟩ = some (.slice (some ⟨L.lb, 0, none⟩) n n) := (hB.cell (p := ⟨d, 2, none⟩) dl).trans l2
    have hbs := hB.size
    have dl' : d < wr.heap.size := by omega
    have lbl' : L.lb < wr.heap.size := by omega
    clear hS hO hB
    by_cases hlt : k < n
    · have hc1 : wr.cell? ⟨L.lb, k * 2 + 1, none⟩ = some (.slice (L.ha k) (hlen S k) (L.hc k)) := (HB.out.cell (p := ⟨L.lb, k * 2 + 1, none⟩) lbl).trans (HCL.out k hlt)
      have HST := Lib.hid (dirtyL_step S k)
      have hle := dirtyL_le S k
      obtain ⟨dk, hdk⟩ : ∃ dk, dirtyL S k = dk := ⟨_, rfl⟩
      rw [hdk] at HST HS hle
      rw [hdk]
      obtain ⟨hl, hhl⟩ : ∃ hl, hlen S k = hl := ⟨_, rfl⟩
      rw [hhl] at hc1 HST
      clear hdk hhl
      by_cases h0 : 0 < hl
      · rw [if_pos h0] at HST
        have h0' : (hl : Int) > 0 := by omega
        go_wp2_with (at_builtin; refine wpList_append_sl rfl (.tmp 25) (.tmp 27) 38 rfl 3 (.int .i64 0) 1 8 rfl (by omega) Try.underlying38 info_int (by omega) A dk.length c (nints dk) ⟨wr.heap.size, 0, none⟩ 1 1 [.int .i64 (k : Int)] rfl rfl (HS.out.keep (fun b hb => Below.heap_alloc _ _ _ (HS.out.lt hb))) rfl (by omega) (cellsI_one wr 3 _) (i64_one _) (by omega) ?_; intro A2 c2 w2 HO2 HC2 HW2 HG2)
        refine ⟨⟨k + 1, A2, c2, by omega, by go_num, by rw [HST.out, List.length_append]; rfl, ?_, ?_, ?_⟩, by simp [intOf]; omega⟩
        · rw [HST.out, List.length_append]
          have := HO2.out
          simpa [nints] using this
        · intro b hb
          rcases HW2.out b hb with h | h
          · exact HO.out b h
          · have := HB.out.size; simp at h; omega
        · exact bl_ch (bl_alloc HB.out _) HC2.out (fun b hb => HO.out b hb)
      · rw [if_neg h0, List.append_nil] at HST
        have h0' : ¬ (hl : Int) > 0 := by omega
        go_wp2
        exact ⟨⟨k + 1, A, c, by omega, by go_num, by rw [HST.out], by rw [HST.out]; exact HS.out, HO.out, HB.out⟩, by simp [intOf]; omega⟩
    · obtain rfl : k = n := by omega
      go_wp2
      go_ret
      exact ⟨A, c, rfl, HS.out, HO.out, HB.out⟩
end Go.Proofs.Ytljolgcmkejlnaa

namespace Go.Proofs.Ytljolgcmkejlnaa
open Go.RowKit
set_option linter.unusedVariables false

def histL (S : DevS) (q : Nat) : List (Int × Int) := (S.lns[q]?.map (·.hist)).getD []
theorem hlen_histL (S : DevS) (q : Nat) : (histL S q).length = hlen S q := by
  unfold histL hlen
  cases S.lns[q]? with
  | none => rfl
  | some l => rfl
/-- How many stores of a line a choice selects. -/
def imgK (S : DevS) (cs : List Int) (q : Nat) : Nat := (cs[(dirtyL S S.lns.length).idxOf q % cs.length]?.getD 0).toNat % (hlen S q + 1)
/-- The words after the first k dirty lines. -/
def imgC (S : DevS) (K : Nat → Nat) (D : List Nat) (k : Nat) : List Int := (D.take k).foldl (fun xs q => applyW xs ((histL S q).take (K q))) S.pers
theorem imgC_step (S : DevS) (K : Nat → Nat) (D : List Nat) (k : Nat) (hk : k < D.length) : imgC S K D (k + 1) = applyW (imgC S K D k) ((histL S D[k]).take (K D[k])) := by
  unfold imgC
  rw [List.take_succ_eq_append_getElem hk, List.foldl_append]; rfl
theorem length_imgC (S : DevS) (K : Nat → Nat) (D : List Nat) : ∀ k, (imgC S K D k).length = S.pers.length := by
  intro k
  induction k with
  | zero => rfl
  | succ k ih =>
    by_cases hk : k < D.length
    · rw [imgC_step S K D k hk, length_applyW, ih]
    · unfold imgC at ih ⊢
      rw [List.take_of_length_le (by omega)] at ih ⊢
      exact ih
theorem mem_dirtyL {S : DevS} {k q : Nat} : q ∈ dirtyL S k ↔ q < k ∧ 0 < hlen S q := by unfold dirtyL; simp
theorem nodup_dirtyL (S : DevS) (k : Nat) : (dirtyL S k).Nodup := List.Pairwise.sublist List.filter_sublist List.nodup_range
section
variable {S : DevS} {N : Nat}
theorem hist_line (h : Good S N) (q : Nat) : ∀ p ∈ histL S q, ∃ k : Nat, p.1 = 8 * (k : Int) ∧ k / 8 = q := by
  intro p hp
  unfold histL at hp
  cases hl : S.lns[q]? with
  | none => rw [hl] at hp; simp at hp
  | some l =>
    rw [hl] at hp
    exact (h.ln q l hl).2.2 p hp
/-- The words after dirty lines, one by one. -/
theorem imgC_at (h : Good S N) (K : Nat → Nat) (D : List Nat) (hD : D.Nodup) (j : Nat) : ∀ k, k ≤ D.length → (imgC S K D k)[j]? = if j / 8 ∈ D.take k then (applyW S.pers ((histL S (j / 8)).take (K (j / 8))))[j]? else S.pers[j]? := by
  intro k
  induction k with
  | zero => intro _; simp [imgC]
  | succ k ih =>
    intro hk
    have hkl : k < D.length := by omega
    have ih := ih (by omega)
    rw [imgC_step S K D k hkl, List.take_succ_eq_append_getElem hkl]
    by_cases hq : D[k] = j / 8
    · have hnot : ¬ j / 8 ∈ D.take k := by
        intro hm
        obtain ⟨i, hi, hie⟩ := List.getElem_of_mem hm
        have hik : i < k := by simp at hi; omega
        rw [List.getElem_take] at hie
        have := (List.getElem_inj hD).1 (hie.trans hq.symm)
        omega
      rw [if_neg hnot] at ih
      rw [if_pos (by simp [hq]), hq]
      exact applyW_congr _ j _ _ (length_imgC S K D k) ih
    · rw [applyW_none _ j (fun p hp => by
        obtain ⟨i, hi1, hi2⟩ := hist_line h D[k] p (List.mem_of_mem_take hp)
        rw [hi1]; omega), ih]
      have : (j / 8 ∈ D.take k ++ [D[k]]) = (j / 8 ∈ D.take k) := by
        simp only [List.mem_append, List.mem_singleton, eq_iff_iff]
        constructor
        · rintro (h | h)
          · exact h
          · exact absurd h.symm hq
        · exact .inl
      simp only [this]
/-- What all dirty lines make of the words. -/
theorem imgC_all (h : Good S N) (K : Nat → Nat) : imgC S K (dirtyL S S.lns.length) (dirtyL S S.lns.length).length = (S.upto K).pers := by
  apply List.ext_getElem?
  intro j
  by_cases hj : j < S.pers.length
  · rw [imgC_at h K _ (nodup_dirtyL S _) j _ (Nat.le_refl _), List.take_length, upto_pers K j hj]
    have hl : j / 8 < S.lns.length := by have := h.np; omega
    have e1 : (S.lns[j / 8]?.map (·.hist)).getD [] = histL S (j / 8) := rfl
    rw [e1]
    by_cases hm : j / 8 ∈ dirtyL S S.lns.length
    · rw [if_pos hm]
    · rw [if_neg hm]
      have h0 : hlen S (j / 8) = 0 := Nat.eq_zero_of_not_pos (fun h0 => hm (mem_dirtyL.2 ⟨hl, h0⟩))
      have : histL S (j / 8) = [] := List.eq_nil_of_length_eq_zero (by rw [hlen_histL]; exact h0)
      rw [this]; simp [applyW]
  · rw [List.getElem?_eq_none (by rw [length_imgC]; omega), List.getElem?_eq_none (by rw [(length_upto K).1]; omega)]
end
end Go.Proofs.Ytljolgcmkejlnaa

namespace Go.Proofs.Ytljolgcmkejlnaa
open Go.RowKit
set_option linter.unusedVariables false

theorem Sl.rdW {w : World} {A : Option Addr} {n c : Nat} {xs : List Int} (h : Sl 25 1 w A n c (uints xs)) : Rd .u64 w A xs := by
  by_cases h0 : xs = []
  · exact .inl h0
  · have hlen : 0 < xs.length := List.length_pos_iff.2 h0
    obtain ⟨g, off, hA, hlt, _⟩ := h.at_ (j := 0) (by rw [length_uints]; exact hlen)
    refine .inr ⟨g, off, hA, hlt, fun i hi => ?_⟩
    obtain ⟨g', off', hA', _, hc⟩ := h.at_ (j := i) (by rw [length_uints]; exact hi)
    rw [hA] at hA'
    injection hA' with hA'
    injection hA' with e1 e2
    subst e1 e2
    rw [hc, get_uints xs i hi]
theorem fits_applyW (ws : List (Int × Int)) (hw : ∀ p ∈ ws, 0 ≤ p.2 ∧ p.2 < 18446744073709551616) : ∀ xs, Fits xs → Fits (applyW xs ws) := by
  induction ws with
  | nil => intro xs h; exact h
  | cons p ws ih =>
    intro xs h
    exact ih (fun q hq => hw q (by simp [hq])) _ (h.set _ (hw p (by simp)))
/-- What Image leaves: the bytes of a crash image. -/
def ImgPost (w : World) (S : DevS) (e : Ending) (w' : World) : Prop :=
  ∃ g K, e = .returned (.slice (some ⟨g, 0, none⟩) (8 * S.pers.length) (8 * S.pers.length)) ∧ (∀ q l, S.lns[q]? = some l → K q ≤ l.hist.length) ∧ IB .u8 5 w' g (bytesL (S.upto K).pers) ∧ w.heap.size ≤ g ∧ Below w.heap.size w w'
theorem upto_none0 (S : DevS) : (S.upto (fun _ => 0)).pers = S.pers := by
  apply List.ext_getElem?
  intro j
  by_cases hj : j < S.pers.length
  · rw [upto_pers _ j hj]; simp [applyW]
  · rw [List.getElem?_eq_none (by rw [(length_upto _).1]; omega), List.getElem?_eq_none (by omega)]
set_option maxRecDepth 100000 in
set_option maxHeartbeats 2000000 in
/-- Image without a choice. -/
theorem devImage_nil (w : World) (d : Nat) (L : Lay) (S : DevS) (h : Dev w d L S) (hf : Fits S.pers) (A : Option Addr) :
    Calls Try.prog 50 #[.pointer (some ⟨d, 0, none⟩), .slice A 0 0] w (ImgPost w S) := by
  have d0 : w.cell? ⟨d, 0, none⟩ = some (.slice (some ⟨L.pb, 0, none⟩) S.pers.length L.pc) := h.dev.cell_some (i := 0) rfl
  have dl := h.lt
  have hn := h.nl
  have hp := h.np
  have HCL := Lib.hid (cloneU w L.pb 0 S.pers.length L.pc S.pers rfl (by omega) (by omega) h.pers.rdW)
  have HF := Lib.hid hf
  obtain ⟨n, hnn⟩ : ∃ n, S.pers.length = n := ⟨_, rfl⟩
  have HN := Lib.hid hnn
  have hn5 : n ≤ 32768 := by omega
  unfold ImgPost
  rw [hnn] at d0 HCL ⊢
  clear h hf hnn hp
  go_enter Try.func50, Try.ntmps50
  go_wp2_with (first
    | (go_at_call 52; refine HCL.out.mono ?_; rintro e w1 ⟨g, c, rfl, hS, hg, hb⟩; have HS := Lib.hid hS; have HB := Lib.hid hb; have HG := Lib.hid hg; clear hS hb hg)
    | (go_at_call 63; refine (bytesOfD w1 _ n c S.pers HN.out hn5 HF.out HS.out.rdW).mono ?_; rintro e w2 ⟨g2, rfl, hI2, hg2, hb2⟩; have HI2 := Lib.hid hI2; have HB2 := Lib.hid hb2; have HG2 := Lib.hid hg2; clear hI2 hb2 hg2))
  go_ret
  refine ⟨g2, fun _ => 0, rfl, fun _ _ _ => Nat.zero_le _, ?_, Nat.le_trans HB.out.size HG2.out, HB.out.trans (HB2.out.mono HB.out.size)⟩
  rw [upto_none0]; exact HI2.out
end Go.Proofs.Ytljolgcmkejlnaa

namespace Go.Proofs.Ytljolgcmkejlnaa
open Go.RowKit
set_option linter.unusedVariables false

/-- What Crash leaves: a new device, whose words are persistent words of a crash image. -/
def CrashPost (w : World) (S : DevS) (n : Nat) (e : Ending) (w' : World) : Prop :=
  ∃ d L K, e = .returned (.pointer (some ⟨d, 0, none⟩)) ∧ (∀ q l, S.lns[q]? = some l → K q ≤ l.hist.length) ∧ Dev w' d L (newS (S.upto K).pers n) ∧ (∀ b, Fp L b → w.heap.size ≤ b) ∧ Below w.heap.size w w'
set_option maxRecDepth 100000 in
set_option maxHeartbeats 2000000 in
theorem devCrash (w : World) (d : Nat) (S : DevS) (n : Nat) (h1 : 1 ≤ n) (h2 : n ≤ 4096) (hp : S.pers.length = 8 * n) (hf : ∀ K, (∀ q l, S.lns[q]? = some l → K q ≤ l.hist.length) → Fits (S.upto K).pers) (A : Option Addr) (m c : Nat)
    (hI : Calls Try.prog 50 #[.pointer (some ⟨d, 0, none⟩), .slice A m c] w (ImgPost w S)) :
    Calls Try.prog 28 #[.pointer (some ⟨d, 0, none⟩), .slice A m c] w (CrashPost w S n) := by
  have HI := Lib.hid hI
  have HF := Lib.hid hf
  have HP := Lib.hid hp
  clear hI hf hp
  go_enter Try.func28, Try.ntmps28
  go_wp2_with (first
    | (go_at_call 50; refine HI.out.mono ?_; rintro e w1 ⟨g, K, rfl, hK, hb, hg, hB⟩; rw [HP.out, show 8 * (8 * n) = 64 * n by omega]; have HK := Lib.hid hK; have HB := Lib.hid hb; have HG := Lib.hid hg; have HBL := Lib.hid hB; clear hK hb hg hB)
    | (go_at_call 49; refine (devFrom w1 (some ⟨g, 0, none⟩) n _ (S.upto K).pers h1 h2 (by rw [(length_upto K).1]; exact HP.out) (HF.out K HK.out) (.inr ⟨g, 0, rfl, HB.out.lt, fun i hi => by rw [Nat.zero_add]; exact HB.out.cell hi⟩)).mono ?_; rintro e w2 ⟨d2, L2, rfl, hD, hB2, hF2⟩; have HD := Lib.hid hD; have HB2 := Lib.hid hB2; have HF2 := Lib.hid hF2; clear hD hB2 hF2))
  go_ret
  exact ⟨d2, L2, K, rfl, HK.out, HD.out, fun b hb => Nat.le_trans HBL.out.size (HF2.out b hb), HBL.out.trans (HB2.out.mono HBL.out.size)⟩
end Go.Proofs.Ytljolgcmkejlnaa

namespace Go.Proofs.Ytljolgcmkejlnaa
open Go.RowKit
set_option linter.unusedVariables false

theorem imgK_le (S : DevS) (cs : List Int) (q : Nat) (l : Ln) (hl : S.lns[q]? = some l) : imgK S cs q ≤ l.hist.length := by
  unfold imgK
  have : hlen S q = l.hist.length := by unfold hlen; rw [hl]; rfl
  rw [this]
  have := Nat.mod_lt ((cs[(dirtyL S S.lns.length).idxOf q % cs.length]?.getD 0).toNat) (show 0 < l.hist.length + 1 by omega)
  omega
set_option maxRecDepth 100000 in
set_option maxHeartbeats 4000000 in
theorem devImage_some (w : World) (d : Nat) (L : Lay) (S : DevS) (N : Nat) (h : Dev w d L S) (hG : Good S N) (hN6 : N < 1000000) (hf : ∀ K, (∀ q l, S.lns[q]? = some l → K q ≤ l.hist.length) → Fits (S.upto K).pers) (A : Option Addr) (m c : Nat) (cs : List Int) (hm : cs.length = m) (hm0 : 0 < m) (hm1 : m ≤ 9223372036854775807) (hR : Rd .u8 w A cs) (hcs : ∀ x ∈ cs, 0 ≤ x ∧ x < 256) :
    Calls Try.prog 50 #[.pointer (some ⟨d, 0, none⟩), .slice A m c] w (ImgPost w S) := by
  have d0 : w.cell? ⟨d, 0, none⟩ = some (.slice (some ⟨L.pb, 0, none⟩) S.pers.length L.pc) := h.dev.cell_some (i := 0) rfl
  have d2 := h.lcell
  have dl := h.lt
  have hn := h.nl
  have hp := h.np
  obtain ⟨bl, hcb, hsz, hbl⟩ := h.lin
  have lbl := hcb.lt
  have HCL0 : Hid (∀ q, q < S.lns.length → w.cell? ⟨L.lb, q * 2 + 1, none⟩ = some (.slice (L.ha q) (hlen S q) (L.hc q))) := by
    intro q hq
    rw [hcb.cell, show q * 2 + 1 = 2 * q + 1 by omega, (hbl q hq).2]
    unfold hlen
    rw [List.getElem?_eq_getElem hq]; rfl
  have HHIS : Hid (∀ q, q < S.lns.length → Sl 90 2 w (L.ha q) (hlen S q) (L.hc q) (wcells (histL S q))) := by
    intro q hq
    have := h.his q hq
    unfold hlen histL
    rw [List.getElem?_eq_getElem hq]
    exact this
  have HCL := Lib.hid (cloneU w L.pb 0 S.pers.length L.pc S.pers rfl (by omega) (by omega) h.pers.rdW)
  have HDI := Lib.hid (fun (W : World) (hW : Below w.heap.size w W) => devDirty W d L S (h.below hW))
  have HGD := Lib.hid hG
  have HF := Lib.hid hf
  have HR := Lib.hid hR
  have HM := Lib.hid hm
  have HCS := Lib.hid hcs
  have HIA := Lib.hid (imgC_all hG (imgK S cs))
  obtain ⟨n, hnn⟩ : ∃ n, S.pers.length = n := ⟨_, rfl⟩
  have HN := Lib.hid hnn
  have hn5 : n ≤ 32768 := by omega
  obtain ⟨D, hD⟩ : ∃ D, dirtyL S S.lns.length = D := ⟨_, rfl⟩
  have HDD := Lib.hid hD
  have hDl : D.length ≤ 4096 := by rw [← hD]; have := dirtyL_le S S.lns.length; omega
  rw [hD] at HIA
  unfold DirtyPost at HDI
  rw [hD] at HDI
  unfold ImgPost
  obtain ⟨ln, hln⟩ : ∃ ln, S.lns.length = ln := ⟨_, rfl⟩
  have HLN := Lib.hid hln
  rw [hnn] at d0 HCL ⊢
  rw [hln] at d2 HCL0 HHIS hn
  have hm0' : (m : Int) > 0 := by omega
  clear h hG hf hR hm hcs hcb hsz hbl hnn hD hln hp
  go_enter Try.func50, Try.ntmps50
  go_wp2_with (first
    | (go_at_call 52; refine HCL.out.mono ?_; rintro e w1 ⟨g, c1, rfl, hS, hg, hb⟩; have HS := Lib.hid hS; have HB := Lib.hid hb; have HG := Lib.hid hg; clear hS hb hg)
    | (go_at_call 61; refine (HDI.out w1 HB.out).mono ?_; rintro e w2 ⟨A2, c2, rfl, hS2, hO2, hb2⟩; have HS2 := Lib.hid hS2; have HB2 := Lib.hid hb2; have HO2 := Lib.hid hO2; clear hS2 hb2 hO2))
  have hgl : g < w1.heap.size := HS.out.lt (by simp [OwnB])
  have HI0 : Hid (Sl 25 1 w2 (some ⟨g, 0, none⟩) n c1 (uints (imgC S (imgK S cs) D 0)) ∧ Ch (At g) w2 w2) := ⟨HS.out.keep (fun b hb => HB2.out.block b (HS.out.lt hb)), Ch.refl _ _⟩
  have hb12 : Below w.heap.size w w2 := HB.out.trans (HB2.out.mono HB.out.size)
  have HBW := Lib.hid hb12
  clear hb12
  go_loopw [23, 6, 7, 8, 9, 24, 25, 26, 27, 28, 29, 30, 31, 32, 33, 34, 35, 36, 37, 38, 39, 40, 41, 42, 43, 44, 45, 46, 47, 48, 49, 50, 51, 52, 53] (fun i _ _ _ _ _ _ _ _ _ _ _ _ _ _ _ _ _ _ _ _ _ _ _ _ _ _ _ _ _ _ _ _ _ _ wr => ∃ k : Nat, k ≤ D.length ∧ i = .int .i64 k ∧ Sl 25 1 wr (some ⟨g, 0, none⟩) n c1 (uints (imgC S (imgK S cs) D k)) ∧ Ch (At g) w2 wr) (fun i _ _ _ _ _ _ _ _ _ _ _ _ _ _ _ _ _ _ _ _ _ _ _ _ _ _ _ _ _ _ _ _ _ _ _ => D.length - (intOf i).toNat)
  case atStart => exact ⟨0, by omega, rfl, HI0.out⟩
  case round =>
    clear HI0
    obtain ⟨k, hk, rfl, hS, hC⟩ := hrel
    have hgw : w.heap.size ≤ g := HG.out
    have hbr : Below w.heap.size w wr := HBW.out.trans (hC.to_below HBW.out.size (fun b hb => by rw [show b = g from hb]; exact hgw))
    have HBR := Lib.hid hbr
    have HSW := Lib.hid hS
    have HC := Lib.hid hC
    clear hS
    by_cases hlt : k < D.length
    · have hlt' : (k : Int) < (D.length : Int) := by omega
      -- the line
      obtain ⟨gd, od, hA2, hgdl, hcd⟩ := HS2.out.at_ (j := k) (by rw [length_nints]; exact hlt)
      have hgd : gd ≠ g := by have := HO2.out gd (by rw [hA2]; simp [OwnB]); omega
      have hcd' : wr.cell? ⟨gd, od + k, none⟩ = some (.int .i64 (D[k] : Int)) := by
        rw [hC.cells gd _ hgdl (fun h => hgd h), hcd]
        simp [nints]
      have hmem : D[k] ∈ dirtyL S S.lns.length := by rw [HDD.out]; exact List.getElem_mem hlt
      obtain ⟨hq1, hq2⟩ := mem_dirtyL.1 hmem
      have hidx : (dirtyL S S.lns.length).idxOf D[k] = k := by
        have hnd := nodup_dirtyL S S.lns.length
        rw [HDD.out] at hnd ⊢
        exact hnd.idxOf_getElem k hlt
      have HST := Lib.hid (imgC_step S (imgK S cs) D k hlt)
      have hKq : imgK S cs D[k] = (cs[k % m]?.getD 0).toNat % (hlen S D[k] + 1) := by unfold imgK; rw [hidx, HM.out]
      obtain ⟨q, hq⟩ : ∃ q, D[k] = q := ⟨_, rfl⟩
      rw [hq] at hcd' hq1 hq2 HST hKq
      rw [HLN.out] at hq1
      have hkm : k % m < cs.length := by rw [HM.out]; exact Nat.mod_lt _ hm0
      obtain ⟨gc, oc, hAc, hgcl, hcc⟩ := HR.out.at_ hkm
      have hcr := HCS.out _ (List.getElem_mem hkm)
      rw [List.getElem?_eq_getElem hkm] at hKq
      obtain ⟨cv, hcv⟩ : ∃ cv, cs[k % m] = cv := ⟨_, rfl⟩
      rw [hcv] at hcc hcr hKq
      simp only [Option.getD_some] at hKq
      have hcc' : wr.cell? ⟨gc, oc + k % m, none⟩ = some (.int .u8 cv) := (hbr.cell (p := ⟨gc, oc + k % m, none⟩) hgcl).trans hcc
      -- the history
      have hHq := HHIS.out q hq1
      obtain ⟨hl, hhl⟩ : ∃ hl, hlen S q = hl := ⟨_, rfl⟩
      have hhl2 := hlen_histL S q
      rw [hhl] at hHq hq2 hKq hhl2
      obtain ⟨gh, oh, hAh, hghl, _⟩ := hHq.at_ (j := 0) (by rw [length_wcells, hhl2]; omega)
      have hlc := HCL0.out q hq1
      rw [hhl, hAh] at hlc
      rw [hAh] at hHq
      obtain ⟨ch, hch⟩ : ∃ ch, L.hc q = ch := ⟨_, rfl⟩
      rw [hch] at hlc hHq
      have hmc : hl ≤ ch ∧ ch ≤ maxLen := by
        rcases hHq.2 with ⟨hx, _⟩ | ⟨_, _, _, _, _, y1, y2, _⟩
        · cases hx
        · exact ⟨y1, y2⟩
      have hmx : ch ≤ 9223372036854775807 := by have := hmc.2; unfold maxLen at this; omega
      have hmc1 := hmc.1
      obtain ⟨kk, hkk⟩ : ∃ kk, imgK S cs q = kk := ⟨_, rfl⟩
      have hkl : kk ≤ hl := by rw [← hkk, hKq]; have := Nat.mod_lt cv.toNat (show 0 < hl + 1 by omega); omega
      have hki : cv % ((hl : Int) + 1) = (kk : Int) := by
        obtain ⟨x, hx⟩ := Int.eq_ofNat_of_zero_le hcr.1
        rw [← hkk, hKq, hx, Int.toNat_natCast, show ((hl : Int) + 1) = ((hl + 1 : Nat) : Int) by omega, ← Int.natCast_emod]
      rw [hkk] at HST
      have hd2 : wr.cell? ⟨d, 2, none⟩ = some (.slice (some ⟨L.lb, 0, none⟩) ln ln) := (hbr.cell (p := ⟨d, 2, none⟩) dl).trans d2
      have hlc' : wr.cell? ⟨L.lb, q * 2 + 1, none⟩ = some (.slice (some ⟨gh, oh, none⟩) hl ch) := (hbr.cell (p := ⟨L.lb, q * 2 + 1, none⟩) lbl).trans hlc
      have hdl' : d < wr.heap.size := Nat.lt_of_lt_of_le dl hbr.size
      have hll' : L.lb < wr.heap.size := Nat.lt_of_lt_of_le lbl hbr.size
      have hq1' : (q : Int) < (ln : Int) := by omega
      have HAP : Hid (Calls Try.prog 62 #[.slice (some ⟨g, 0, none⟩) n c1, .slice (some ⟨gh, oh, none⟩) kk ch] wr fun e w' => e = .returned (.tuple #[]) ∧ Sl 25 1 w' (some ⟨g, 0, none⟩) n c1 (uints (applyW (imgC S (imgK S cs) D k) ((histL S q).take kk))) ∧ Ch (At g) wr w') := by
        refine devApply wr g n c1 kk ch _ (some ⟨gh, oh, none⟩) ((histL S q).take kk) HSW.out (by rw [length_imgC]; exact HN.out) ?_ (by rw [List.length_take, hhl2]; omega) (by simp [OwnB]; intro h; rw [h] at hghl; omega) (fun p hp => ?_) (by omega) hn5
        · have := (hHq.keep (fun b hb => hbr.block b (hHq.lt hb))).take kk hkl
          rwa [wcells_take] at this
        · obtain ⟨j, hj1, hj2⟩ := hist_line HGD.out q p (List.mem_of_mem_take hp)
          have := HGD.out.np
          rw [HN.out, HLN.out] at this
          omega
      have hcv1 : cv < 256 := hcr.2
      have hcv0 : 0 ≤ cv := hcr.1
      have hl9 : hl ≤ 1000000 := by
        have hqq : q < S.lns.length := by rw [HLN.out]; exact hq1
        have h1 := HGD.out.ln q _ (List.getElem?_eq_getElem hqq)
        have h2 : S.lns[q].hist.length = hl := by rw [← hhl]; unfold hlen; rw [List.getElem?_eq_getElem hqq]; rfl
        omega
      have hb1 : (k : Int) % (m : Int) < (m : Int) := Int.emod_lt_of_pos _ (by omega)
      have hb0 : 0 ≤ (k : Int) % (m : Int) := Int.emod_nonneg _ (by omega)
      subst hA2 hAc
      clear hbr hC hcd hcc hlc hmem hidx hKq hkk hmc d0 d2
      go_wp2_with (go_at_call 62; refine HAP.out.mono ?_; rintro e w4 ⟨rfl, hS4, hC4⟩; have HS4 := Lib.hid hS4; have HC4 := Lib.hid hC4; clear hS4 hC4)
      refine ⟨⟨k + 1, by omega, by go_num, by rw [HST.out]; exact HS4.out, HC.out.trans HC4.out (fun _ h _ => h)⟩, by simp [intOf]; omega⟩
    · obtain rfl : k = D.length := by omega
      have hI9 := HSW.out
      rw [HIA.out] at hI9
      have HI9 := Lib.hid hI9
      clear hI9 hbr hC
      have HBO := Lib.hid (bytesOfD wr (some ⟨g, 0, none⟩) n c1 (S.upto (imgK S cs)).pers (by rw [(length_upto _).1]; exact HN.out) hn5 (HF.out _ (fun q l hl => imgK_le S cs q l hl)) HI9.out.rdW)
      go_wp2_with (go_at_call 63; refine HBO.out.mono ?_; rintro e w3 ⟨g2, rfl, hI2, hg2, hb2⟩; have HI2 := Lib.hid hI2; have HB3 := Lib.hid hb2; have HG2 := Lib.hid hg2; clear hI2 hb2 hg2)
      go_ret
      exact ⟨g2, imgK S cs, rfl, fun q l hl => imgK_le S cs q l hl, HI2.out, Nat.le_trans HBR.out.size HG2.out, HBR.out.trans (HB3.out.mono HBR.out.size)⟩
end Go.Proofs.Ytljolgcmkejlnaa
