/- Contracts of crc.step and crc.Words. -/
import Derived.Test.YtlbgmoijepknbaaDoorCrcB
import Derived.Test.YtlbgmoijepknbaaDoorZ
namespace Go.Proofs.YtlbgmoijepknbaaDoor
open Go.RowKit
set_option linter.unusedVariables false

/-- The table of four bits lies in its variable. -/
def Tab (w : World) : Prop := 0 < w.heap.size ∧ ∀ j, j < 16 → w.cell? ⟨0, j, none⟩ = some (.int .u32 (nibT.getD j 0 : Nat))
theorem Tab.below {w w' : World} (h : Tab w) (hb : Below w.heap.size w w') : Tab w' := ⟨Nat.lt_of_lt_of_le h.1 hb.size, fun j hj => (hb.cell (p := ⟨0, j, none⟩) h.1).trans (h.2 j hj)⟩
theorem Tab.bx {w : World} (h : Tab w) (x : BX w) : Tab x.w := h.below x.below

theorem nib_lt (j : Nat) : nibT.getD j 0 < 4294967296 := by
  by_cases h : j < 16
  · have : ∀ j, j < 16 → nibT.getD j 0 < 4294967296 := by decide
    exact this j h
  · rw [List.getD_eq_getElem?_getD, List.getElem?_eq_none (show nibT.length ≤ j by simp [nibT]; omega)]; decide

set_option maxRecDepth 100000 in
set_option maxHeartbeats 1000000 in
theorem crcStep (w : World) (hT : Tab w) (r b : Nat) (hr : r < 4294967296) (hb : b < 256) :
    Calls Tryd.prog 18 #[.int .u32 (r : Int), .int .u8 (b : Int)] w fun e w' => e = .returned (.int .u32 ((crTi 8 (r ^^^ b) : Nat) : Int)) ∧ w = w' := by
  obtain ⟨x, hx⟩ : ∃ x, r ^^^ b = x := ⟨_, rfl⟩
  have hx32 : x < 4294967296 := by rw [← hx]; exact Nat.xor_lt_two_pow (n := 32) (by omega) (by omega)
  have HE : Hid (crTi 8 x = (x / 16 ^^^ nibT.getD (x % 16) 0) / 16 ^^^ nibT.getD ((x / 16 ^^^ nibT.getD (x % 16) 0) % 16) 0) := by
    show _ = _
    rw [show (8 : Nat) = 4 + 4 from rfl, crTi_add, crTi_four, crTi_four]
  rw [hx]
  have e1 : IntKind.u32.wrap (b : Int) = (b : Int) := IntWalk.u32_in _ (by omega)
  have e2 : bits .xor .u32 (r : Int) (b : Int) = ((x : Nat) : Int) := by rw [u32_xor_nat _ _ hr (by omega), hx]
  have f1 := hT.2 (x % 16) (by omega)
  obtain ⟨n1, hn1⟩ : ∃ n1, nibT.getD (x % 16) 0 = n1 := ⟨_, rfl⟩
  have hl1 : n1 < 4294967296 := by rw [← hn1]; exact nib_lt _
  obtain ⟨y, hy⟩ : ∃ y, x / 16 ^^^ n1 = y := ⟨_, rfl⟩
  have hy32 : y < 4294967296 := by rw [← hy]; exact Nat.xor_lt_two_pow (n := 32) (by omega) (by omega)
  have e3 : bits .xor .u32 ((x : Int) / 16) (n1 : Int) = ((y : Nat) : Int) := by
    rw [show ((x : Int) / 16) = ((x / 16 : Nat) : Int) by omega, u32_xor_nat _ _ (by omega) hl1, hy]
  have f2 := hT.2 (y % 16) (by omega)
  obtain ⟨n2, hn2⟩ : ∃ n2, nibT.getD (y % 16) 0 = n2 := ⟨_, rfl⟩
  have hl2 : n2 < 4294967296 := by rw [← hn2]; exact nib_lt _
  rw [hn1] at f1
  rw [hn2] at f2
  have e4 : bits .xor .u32 ((y : Int) / 16) (n2 : Int) = ((y / 16 ^^^ n2 : Nat) : Int) := by
    rw [show ((y : Int) / 16) = ((y / 16 : Nat) : Int) by omega, u32_xor_nat _ _ (by omega) hl2]
  have m1 : bits .and .u32 (x : Int) 15 = ((x % 16 : Nat) : Int) := by
    rw [show (15 : Int) = ((15 : Nat) : Int) from rfl, u32_and_nat _ _ hx32 (by omega), nat_mask4]
  have m2 : bits .and .u32 (y : Int) 15 = ((y % 16 : Nat) : Int) := by
    rw [show (15 : Int) = ((15 : Nat) : Int) from rfl, u32_and_nat _ _ hy32 (by omega), nat_mask4]
  have hx16 : x % 16 < 16 := by omega
  have hy16 : y % 16 < 16 := by omega
  have HF : Hid (crTi 8 x = y / 16 ^^^ n2) := by
    show _ = _
    rw [HE.out, hn1, hy, hn2]
  clear hn1 hn2 HE hx hy hT
  go_enter Tryd.func18, Tryd.ntmps18
  go_wp2
  go_ret
  refine ⟨?_, rfl⟩
  rw [HF.out]; rfl

theorem cr_step (j r v : Nat) (hj : j < 8) : crTi (8 * (8 - j)) (r ^^^ v) = crTi (8 * (8 - (j + 1))) (crTi 8 (r ^^^ v % 256) ^^^ v / 256) := by
  rw [show 8 * (8 - j) = 8 + 8 * (8 - (j + 1)) by omega, crTi_add]
  congr 1
  conv => lhs; rw [split_xor v 8]
  rw [Nat.xor_comm (v / 2 ^ 8 * 2 ^ 8), ← Nat.xor_assoc, crTi_xor, crTi_shift]

theorem xor_all32 (v : Nat) (hv : v < 4294967296) : bits .xor .u32 (if IntKind.u32.signed = true then -1 else IntKind.u32.max) (v : Int) = ((4294967295 ^^^ v : Nat) : Int) := by
  show bits .xor .u32 ((4294967295 : Nat) : Int) (v : Int) = _
  rw [u32_xor_nat _ _ (by omega) hv]

set_option maxRecDepth 100000 in
set_option maxHeartbeats 1000000 in
theorem crcWords (w : World) (hT : Tab w) (A : Option Addr) (n c : Nat) (xs : List Int) (hx : xs.length = n) (hn : n ≤ 1000) (hR : Rd .u64 w A xs) (hF : Fits xs) :
    Calls Tryd.prog 7 #[.slice A n c] w fun e w' => e = .returned (.int .u32 (sumI xs)) ∧ w = w' := by
  have HT := Lib.hid hT
  have HR := Lib.hid hR
  have HX := Lib.hid hx
  have HF := Lib.hid hF
  obtain ⟨F, hFF⟩ : ∃ F, crW 4294967295 (nats xs) = F := ⟨_, rfl⟩
  have hF32 : F < 4294967296 := by rw [← hFF]; exact crW_lt _ _ (by decide) (nats_lt hF)
  have HS : Hid (sumI xs = ((4294967295 ^^^ F : Nat) : Int)) := by show _ = _; unfold sumI crSum; rw [hFF]
  have HFF := Lib.hid hFF
  clear hT hR hx hF hFF
  go_enter Tryd.func7, Tryd.ntmps7
  go_wp2
  go_loopw [8, 3, 5, 10, 11, 12, 13, 14, 15, 16, 17, 18, 19, 20, 21, 9] (fun i r _ _ _ _ _ _ _ _ _ _ _ _ _ _ wr => ∃ k r0 : Nat, k ≤ n ∧ i = .int .i64 k ∧ r = .int .u32 (r0 : Int) ∧ r0 < 4294967296 ∧ crW r0 (nats (xs.drop k)) = F ∧ w = wr) (fun i _ _ _ _ _ _ _ _ _ _ _ _ _ _ _ _ => n - (intOf i).toNat)
  case atStart => exact ⟨0, 4294967295, by omega, rfl, rfl, by omega, HFF.out, rfl⟩
  case round =>
    obtain ⟨k, r0, hk, rfl, rfl, hr0, hcr, rfl⟩ := hrel
    have HCR := Lib.hid hcr
    clear hcr
    by_cases hlt : k < n
    · have hlt' : (k : Int) < (n : Int) := by omega
      have hkx : k < xs.length := by rw [HX.out]; exact hlt
      obtain ⟨b1, o1, rfl, hb1, hc1⟩ := HR.out.at_ hkx
      have h64 := HF.out _ (List.getElem_mem hkx)
      obtain ⟨v0, hv0⟩ := Int.eq_ofNat_of_zero_le h64.1
      rw [hv0] at hc1 h64
      have hv64 : v0 < 18446744073709551616 := by omega
      have HG : Hid (crW (crTi 64 (r0 ^^^ v0)) (nats (xs.drop (k + 1))) = F) := by
        show _ = _
        have := HCR.out
        rw [List.drop_eq_getElem_cons hkx] at this
        unfold nats at this
        rw [List.map_cons, hv0, Int.toNat_natCast] at this
        exact this
      obtain ⟨G, hG⟩ : ∃ G, crTi 64 (r0 ^^^ v0) = G := ⟨_, rfl⟩
      have hG32 : G < 4294967296 := by
        rw [← hG]
        exact crW_lt [v0] r0 (by omega) (fun w hw => by rw [List.mem_singleton.1 hw]; omega)
      have HGG := Lib.hid hG
      rw [hG] at HG
      clear h64 hv0 hG HCR
      go_wp2
      go_loopw [12, 3, 5, 13, 14, 15, 16, 17, 18, 19, 20] (fun i r v _ _ _ _ _ _ _ _ wr => ∃ j r1 v1 : Nat, j ≤ 8 ∧ i = .int .i64 j ∧ r = .int .u32 (r1 : Int) ∧ r1 < 4294967296 ∧ v = .int .u64 (v1 : Int) ∧ v1 < 2 ^ (64 - 8 * j) ∧ crTi (8 * (8 - j)) (r1 ^^^ v1) = G ∧ w = wr) (fun i _ _ _ _ _ _ _ _ _ _ _ => 8 - (intOf i).toNat)
      case atStart => exact ⟨0, r0, v0, by omega, rfl, rfl, hr0, rfl, by omega, HGG.out, rfl⟩
      case round =>
        obtain ⟨j, r1, v1, hj, rfl, rfl, hr1, rfl, hv1, hst, rfl⟩ := hrel
        have HST := Lib.hid hst
        have HV := Lib.hid hv1
        have hv1' : v1 < 18446744073709551616 := Nat.lt_of_lt_of_le hv1 (Nat.pow_le_pow_right (by omega) (show 64 - 8 * j ≤ 64 by omega))
        clear hst hv1
        by_cases hj8 : j < 8
        · have hj8' : (j : Int) < 8 := by omega
          have e1 : IntKind.u8.wrap (v1 : Int) = ((v1 % 256 : Nat) : Int) := by rw [IntKind.wrap_u8']; omega
          have hr2 : crTi 8 (r1 ^^^ v1 % 256) < 4294967296 := crTi_lt 8 (Nat.xor_lt_two_pow (n := 32) (by omega) (by omega))
          go_wp2_with (go_at_call 18; refine (crcStep _ HT.out r1 (v1 % 256) hr1 (by omega)).mono ?_; rintro e w' ⟨rfl, rfl⟩)
          go_roundw
          case rel =>
            refine ⟨j + 1, crTi 8 (r1 ^^^ v1 % 256), v1 / 256, by omega, by go_num, rfl, hr2, by congr 1, ?_, ?_, by first | rfl | trivial⟩
            · have := HV.out
              rw [show 64 - 8 * j = 64 - 8 * (j + 1) + 8 by omega, Nat.pow_add] at this
              exact Nat.div_lt_of_lt_mul (by rw [Nat.mul_comm]; exact this)
            · rw [← cr_step j r1 v1 hj8]; exact HST.out
          case measure => simp [intOf]; omega
        · obtain rfl : j = 8 := by omega
          have hv0 : v1 = 0 := by have := HV.out; simpa using this
          have hrG : r1 = G := by have := HST.out; rw [hv0, Nat.xor_zero] at this; exact this
          subst hv0 hrG
          go_wp2
          go_roundw
          case rel => exact ⟨k + 1, r1, by omega, by go_num, rfl, hr1, HG.out, by first | rfl | trivial⟩
          case measure => simp [intOf]; omega
    · obtain rfl : k = n := by omega
      have hrF : r0 = F := by
        have := HCR.out
        rwa [List.drop_of_length_le (by rw [HX.out]; omega)] at this
      subst hrF
      have hall := xor_all32 r0 hr0
      go_wp2
      go_ret
      exact ⟨by rw [HS.out]; rfl, rfl⟩
end Go.Proofs.YtlbgmoijepknbaaDoor
