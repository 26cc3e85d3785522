/- Contract of crc.Burst at the bytes of words. -/
import Derived.Test.YtlbgmoijepknbaaDoorCrcE
namespace Go.Proofs.YtlbgmoijepknbaaDoor
open Go.RowKit
set_option linter.unusedVariables false

theorem size_u8 : (Tryd.prog.info? 5).map (·.size) = some 1 := by kernel_rfl
theorem tdivmod8 (k : Nat) : (k : Int).tdiv 8 = ((k / 8 : Nat) : Int) ∧ (k : Int).tmod 8 = ((k % 8 : Nat) : Int) := ⟨rfl, rfl⟩
def BurPost (w : World) (ws : List Int) (bit : Int) (n : Nat) (e : Ending) (w' : World) : Prop :=
  ∃ g vs, e = .returned (.slice (some ⟨g, 0, none⟩) n n) ∧ BurI ws bit 32 vs ∧ IB .u8 5 w' g (bytesL vs) ∧ w.heap.size ≤ g ∧ Below w.heap.size w w'

set_option maxRecDepth 100000 in
set_option maxHeartbeats 2000000 in
theorem crcBurst (w : World) (A : Option Addr) (n c : Nat) (ws : List Int) (hn : 8 * ws.length = n) (h0 : 0 < n) (hb : n ≤ 1000) (hR : Rd .u8 w A (bytesL ws)) (hF : Fits ws) (bit : Int) (hbit : -9223372036854775808 ≤ bit ∧ bit ≤ 9223372036854775807) (pat : Int) (hpat : 0 ≤ pat ∧ pat < 4294967296) :
    Calls Tryd.prog 9 #[.slice A n c, .int .i64 bit, .int .u32 pat] w (BurPost w ws bit n) := by
  have HR := Lib.hid hR
  have HF := Lib.hid hF
  have HN := Lib.hid hn
  have hmk := fun W => run_make_z (P := Tryd.prog) 32 5 .u8 .i64 .i64 (n : Int) n rfl Tryd.underlying32 1 info_u8 (by omega) (by omega) W
  obtain ⟨w1, hr1, hI1, hC1⟩ := run_copy_ints (P := Tryd.prog) (w.alloc (.cells (ia .u8 (List.replicate n 0)) 5)) 32 32 3 5 Tryd.underlying32 size_u8 .u8 5 (some ⟨w.heap.size, 0, none⟩) A n n n c w.heap.size 0 (List.replicate n 0) (bytesL ws) (IB.new w _) (by rw [length_bytesL, hn]; simp) (fun _ => rfl) (by rw [length_bytesL, hn]; simp) (hR.alloc _)
  rw [show splice (List.replicate n 0) 0 (bytesL ws) = bytesL ws by simp [splice, length_bytesL, hn]] at hI1
  rw [length_bytesL, hn] at hr1
  have HI1 := Lib.hid hI1
  have HC1 := Lib.hid (bl_ch (bl_alloc (Below.refl _ _) _) hC1 (fun b hb => by unfold At at hb; omega) : Below w.heap.size w w1)
  have hwc := hC1.size
  have HW := Lib.hid (by simpa using hwc : w.heap.size + 1 ≤ w1.heap.size)
  clear hI1 hC1 hR hF hn hwc
  go_enter Tryd.func9, Tryd.ntmps9
  go_wp2
  go_loopw [16, 8, 9, 17, 18, 19, 20, 21, 22, 23, 24, 25, 26, 27, 28, 29, 30, 31, 32, 33, 34, 35, 36, 37, 38, 39, 40, 41, 42, 43, 44, 45, 46, 47, 48, 49, 50, 51, 52, 53, 54, 55, 56, 57] (fun i _ _ _ _ _ _ _ _ _ _ _ _ _ _ _ _ _ _ _ _ _ _ _ _ _ _ _ _ _ _ _ _ _ _ _ _ _ _ _ _ _ _ _ wr => ∃ (j : Nat) (vs : List Int), j ≤ 32 ∧ i = .int .i64 j ∧ BurI ws bit j vs ∧ IB .u8 5 wr w.heap.size (bytesL vs) ∧ Below w.heap.size w wr) (fun i _ _ _ _ _ _ _ _ _ _ _ _ _ _ _ _ _ _ _ _ _ _ _ _ _ _ _ _ _ _ _ _ _ _ _ _ _ _ _ _ _ _ _ _ => 32 - (intOf i).toNat)
  case atStart => exact ⟨0, ws, by omega, rfl, BurI.start HF.out bit, HI1.out, HC1.out⟩
  case round =>
    clear hr1 hmk HI1 HC1 HW
    obtain ⟨j, vs, hj, rfl, hBu, hI, hB⟩ := hrel
    have HBu := Lib.hid hBu
    have HI := Lib.hid hI
    have HB := Lib.hid hB
    clear hBu hI hB
    by_cases hj32 : j < 32
    · have hj32' : (j : Int) < 32 := by omega
      have hwj : IntKind.u64.wrap (j : Int) = (j : Int) := IntWalk.u64_in _ (by omega)
      have hnj : IntKind.i64.wrap (-(j : Int)) = -(j : Int) := IntWalk.i64_in _ (by omega)
      have hskip : ∀ wr', IB .u8 5 wr' w.heap.size (bytesL vs) → Below w.heap.size w wr' → ∃ (j' : Nat) (vs : List Int), j' ≤ 32 ∧ Value.int .i64 ((j : Int) + 1) = .int .i64 j' ∧ BurI ws bit j' vs ∧ IB .u8 5 wr' w.heap.size (bytesL vs) ∧ Below w.heap.size w wr' := fun wr' h1 h2 => ⟨j + 1, vs, by omega, by go_num, HBu.out.skip, h1, h2⟩
      have HSK := Lib.hid hskip
      clear hskip
      by_cases hp : bits .and .u32 (pat / 2 ^ j) 1 = 0
      · go_wp2
        go_roundw
        case rel => exact HSK.out _ HI.out HB.out
        case measure => simp [intOf]; omega
      · by_cases hlt : bit < -(j : Int)
        · go_wp2
          go_roundw
          case rel => exact HSK.out _ HI.out HB.out
          case measure => simp [intOf]; omega
        · by_cases hge : (n : Int) ≤ bit.tdiv 8
          · go_wp2
            go_roundw
            case rel => exact HSK.out _ HI.out HB.out
            case measure => simp [intOf]; omega
          · have hub : bit < 8 * (n : Int) := by
              rcases Int.lt_or_le bit 0 with h | h
              · omega
              · rw [Int.tdiv_eq_ediv_of_nonneg h] at hge; omega
            obtain ⟨k, hk⟩ := Int.eq_ofNat_of_zero_le (show 0 ≤ bit + (j : Int) by omega)
            have ew : wrap64 (bit + (j : Int)) = (k : Int) := by rw [hk]; exact IntWalk.wrap64_in _ (by omega)
            obtain ⟨q, hq⟩ : ∃ q, k / 8 = q := ⟨_, rfl⟩
            obtain ⟨r, hr⟩ : ∃ r, k % 8 = r := ⟨_, rfl⟩
            have eq : wrap64 ((k : Int) / 8) = (q : Int) := by
              rw [show (k : Int) / 8 = ((k / 8 : Nat) : Int) from rfl, hq]; exact IntWalk.wrap64_in _ (by omega)
            have er : (k : Int) % 8 = (r : Int) := by rw [← hr]; rfl
            have er2 : IntKind.u64.wrap (r : Int) = (r : Int) := IntWalk.u64_in _ (by omega)
            have hr8 : r < 8 := by omega
            have HK := Lib.hid hk
            have HQ := Lib.hid hq
            have HRr := Lib.hid hr
            clear hk hq hr hub
            by_cases hqn : q < n
            · have hqn' : (q : Int) < (n : Int) := by omega
              have hlv : vs.length = ws.length := HBu.out.len
              have hbl : q < (bytesL vs).length := by rw [length_bytesL, hlv, HN.out]; exact hqn
              have hc := HI.out.cell hbl
              rw [bytesL_get] at hc
              have hf := HI.out.frozen q
              have hrg := byteAt_range vs q
              obtain ⟨y, hy⟩ := Int.eq_ofNat_of_zero_le hrg.1
              have HY := Lib.hid hy
              rw [hy] at hc hrg
              have hy8 : y < 256 := by omega
              clear hy hrg
              have hpw : 2 ^ r < 256 := by
                have := Nat.pow_lt_pow_right (a := 2) (by omega) hr8
                simpa using this
              have hbx : bits .xor .u8 (y : Int) ((2 : Int) ^ r % 256) = ((y ^^^ 2 ^ r : Nat) : Int) := by
                rw [show ((2 : Int) ^ r % 256) = ((2 ^ r : Nat) : Int) by rw [show ((2 : Int) ^ r) = ((2 ^ r : Nat) : Int) from (Int.natCast_pow 2 r).symm]; exact Int.emod_eq_of_lt (Int.natCast_nonneg _) (by exact_mod_cast hpw), u8_xor_nat _ _ hy8 hpw]
              have hk64 : k < 64 * ws.length := by have := HQ.out; have := HN.out; omega
              have h6 := HI.out.set q ((y ^^^ 2 ^ r : Nat) : Int)
              rw [show (bytesL vs).set q ((y ^^^ 2 ^ r : Nat) : Int) = bytesL (flipK vs k) by
                rw [← bytesL_flip HBu.out.fits k (by rw [hlv]; exact hk64), HQ.out, HRr.out, HY.out]; rfl] at h6
              have H6 := Lib.hid h6
              have HBX := Lib.hid hbx
              clear h6 hpw hbx
              go_wp2
              rw [HBX.out]
              go_roundw
              case rel => exact ⟨j + 1, flipK vs k, by omega, by go_num, HBu.out.flip HK.out hk64, H6.out, bl_set HB.out (Nat.le_refl _) _⟩
              case measure => simp [intOf]; omega
            · have hqn' : ¬ (q : Int) < (n : Int) := by omega
              go_wp2
              go_roundw
              case rel => exact HSK.out _ HI.out HB.out
              case measure => simp [intOf]; omega
    · obtain rfl : j = 32 := by omega
      go_wp2
      go_ret
      exact ⟨_, vs, rfl, HBu.out, HI.out, Nat.le_refl _, HB.out⟩
end Go.Proofs.YtlbgmoijepknbaaDoor
