/- Contracts of word.wordsOf, Unpack, Pack. -/
import Derived.Test.YtlbgmoijepknbaaProg
import Derived.Test.YtlbgmoijepknbaaLib
namespace Go.Proofs.Ytlbgmoijepknbaa
open Go.RowKit
set_option linter.unusedVariables false
set_option linter.unusedSimpArgs false

set_option maxHeartbeats 400000 in
theorem wordsOf_any (w : World) (n : Nat) (hn : n ≤ 1000000000000) :
    Calls Try.prog 80 #[.int .i64 (n : Int)] w fun e w' => e = .returned (.int .i64 (((n + 7) / 8 : Nat) : Int)) ∧ w = w' := by
  go_enter Try.func80, Try.ntmps80
  go_wp2
  · go_ret
    have h : ((n : Int) % 8 != 0) = true := by assumption
    simp at h
    exact ⟨ret_int (by omega), rfl⟩
  · go_ret
    have h : ((n : Int) % 8 != 0) = false := by assumption
    simp at h
    exact ⟨ret_int (by omega), rfl⟩

theorem info_u8 : (Try.prog.info? 5).map (fun i => (i.zero, i.size, i.bytes)) = some (some (.int .u8 0), 1, 1) := by kernel_rfl

/-- The bytes that words hold. -/
def unpk (ws : List Int) (n : Nat) : List Int := (List.range n).map fun i => (ws[i / 8]?.getD 0) / 2 ^ (i % 8 * 8) % 256
theorem unpk_succ (ws : List Int) (k : Nat) (hq : k / 8 < ws.length) : unpk ws (k + 1) = unpk ws k ++ [ws[k / 8] / 2 ^ (k % 8 * 8) % 256] := by
  simp [unpk, List.range_succ, hq]
theorem length_unpk (ws : List Int) (k : Nat) : (unpk ws k).length = k := by simp [unpk]
theorem unpk_step (ws : List Int) (k n : Nat) (hk : k < n) (hq : k / 8 < ws.length) :
    (unpk ws k ++ List.replicate (n - k) 0).set k (ws[k / 8] / 2 ^ (k % 8 * 8) % 256) = unpk ws (k + 1) ++ List.replicate (n - (k + 1)) 0 := by
  rw [List.set_append_right _ _ (by rw [length_unpk]; omega), length_unpk, Nat.sub_self, unpk_succ ws k hq, show n - k = (n - (k + 1)) + 1 from by omega, List.replicate_succ]
  simp

set_option maxRecDepth 100000 in
set_option maxHeartbeats 1000000 in
theorem unpack_loop (w : World) (A : Option Addr) (c n : Nat) (ws : List Int) (hn : n ≤ 1000000000000) (hl : ws.length = (n + 7) / 8) (hA : Rd .u64 w A ws) (h0 : ∀ i (h : i < ws.length), 0 ≤ ws[i])
    (hz : n % 8 = 0 ∨ ∃ h : (n + 7) / 8 - 1 < ws.length, ws[(n + 7) / 8 - 1] / 2 ^ (n % 8 * 8) = 0) :
    Calls Try.prog 70 #[.slice A ((n + 7) / 8) c, .int .i64 (n : Int)] w fun e w' => e = .returned (.tuple #[.slice (some ⟨w.heap.size, 0, none⟩) n n, .int .i64 0]) ∧ IB .u8 5 w' w.heap.size (unpk ws n) ∧ Below w.heap.size w w' := by
  have H := Lib.hid hA
  have HL := Lib.hid hl
  have H0 := Lib.hid h0
  have hmk := fun W => run_make_ints (P := Try.prog) 156 5 .u8 .i64 .i64 n Try.underlying156 1 info_u8 (by omega) (by omega) W
  by_cases hz' : n % 8 = 0
  · have hm : ((n : Int) % 8 != 0) = false := by simp; omega
    clear hA hl h0 hz hz'
    go_enter Try.func70, Try.ntmps70
    go_wp2_with (go_at_call 80; refine (wordsOf_any _ _ hn).mono ?_; rintro e w' ⟨rfl, rfl⟩)
    clear hm hmk
    go_loopw [36, 7, 37, 38, 39, 40, 41, 42, 43, 44, 45, 46, 47, 48, 49, 50, 51, 52, 53] (fun i _ _ _ _ _ _ _ _ _ _ _ _ _ _ _ _ _ _ wr => ∃ k : Nat, k ≤ n ∧ i = .int .i64 k ∧ IB .u8 5 wr w.heap.size (unpk ws k ++ List.replicate (n - k) 0) ∧ Below w.heap.size w wr) (fun i _ _ _ _ _ _ _ _ _ _ _ _ _ _ _ _ _ _ _ => n - (intOf i).toNat)
    case atStart => exact ⟨0, Nat.zero_le _, rfl, by have := IB.new (k := .u8) (e := 5) w (List.replicate n 0); simpa [unpk] using this, bl_alloc (Below.refl _ _) _⟩
    case round =>
      obtain ⟨k, hk, rfl, hI, hB⟩ := hrel
      have HI := Lib.hid hI
      have HB := Lib.hid hB
      clear hI hB
      by_cases hlt : k < n
      · have hq : k / 8 < ws.length := by have := HL.out; omega
        obtain ⟨b, off, hAb, hbs, hc⟩ := (H.out.below HB.out).at_ hq
        first | (subst hAb) | (injection hAb with hAb; injection hAb with hAb hAb'; subst hAb hAb')
        have hfr := HI.out.frozen k
        have hce := HI.out.cell (i := k) (by simp [unpk]; omega)
        obtain ⟨v, hv⟩ : ∃ v, wr.cell? ⟨w.heap.size, k, none⟩ = some v := ⟨_, hce⟩
        clear hce
        have hnk := H0.out _ hq
        have h8 : k / 8 < (n + 7) / 8 := by omega
        go_wp2
        have h6 := HI.out.set k (ws[k / 8] / 2 ^ (k % 8 * 8) % 256)
        rw [unpk_step ws k n hlt hq] at h6
        have h7 := bl_set HB.out (p := ⟨w.heap.size, k, none⟩) (Nat.le_refl _) (.int .u8 (ws[k / 8] / 2 ^ (k % 8 * 8) % 256))
        go_roundw
        case rel => exact ⟨k + 1, by omega, by go_num, h6, h7⟩
        case measure => simp [intOf]; omega
      · obtain rfl : k = n := by omega
        go_wp2
        go_ret2
        exact ⟨rfl, by have h6 := HI.out; simpa using h6, HB.out⟩
  · obtain ⟨hq, htop⟩ := hz.resolve_left hz'
    obtain ⟨b, off, hAb, hbs, hc⟩ := hA.at_ hq
    have hm : ((n : Int) % 8 != 0) = true := by simp; omega
    have h1 : (ws[(n + 7) / 8 - 1] / 2 ^ (n % 8 * 8) != 0) = false := by rw [htop]; rfl
    have hnn := h0 _ hq
    have h9 : (n + 7) / 8 - 1 < (n + 7) / 8 := by omega
    have h1n : 1 ≤ (n + 7) / 8 := by omega
    clear hA hl h0 hz htop hz'
    subst hAb
    go_enter Try.func70, Try.ntmps70
    go_wp2_with (go_at_call 80; refine (wordsOf_any _ _ hn).mono ?_; rintro e w' ⟨rfl, rfl⟩)
    clear hm hmk h1 hc hnn
    go_loopw [36, 7, 37, 38, 39, 40, 41, 42, 43, 44, 45, 46, 47, 48, 49, 50, 51, 52, 53] (fun i _ _ _ _ _ _ _ _ _ _ _ _ _ _ _ _ _ _ wr => ∃ k : Nat, k ≤ n ∧ i = .int .i64 k ∧ IB .u8 5 wr w.heap.size (unpk ws k ++ List.replicate (n - k) 0) ∧ Below w.heap.size w wr) (fun i _ _ _ _ _ _ _ _ _ _ _ _ _ _ _ _ _ _ _ => n - (intOf i).toNat)
    case atStart => exact ⟨0, Nat.zero_le _, rfl, by have := IB.new (k := .u8) (e := 5) w (List.replicate n 0); simpa [unpk] using this, bl_alloc (Below.refl _ _) _⟩
    case round =>
      obtain ⟨k, hk, rfl, hI, hB⟩ := hrel
      have HI := Lib.hid hI
      have HB := Lib.hid hB
      clear hI hB
      by_cases hlt : k < n
      · have hq : k / 8 < ws.length := by have := HL.out; omega
        obtain ⟨b, off, hAb, hbs, hc⟩ := (H.out.below HB.out).at_ hq
        first | (subst hAb) | (injection hAb with hAb; injection hAb with hAb hAb'; subst hAb hAb')
        have hfr := HI.out.frozen k
        have hce := HI.out.cell (i := k) (by simp [unpk]; omega)
        obtain ⟨v, hv⟩ : ∃ v, wr.cell? ⟨w.heap.size, k, none⟩ = some v := ⟨_, hce⟩
        clear hce
        have hnk := H0.out _ hq
        have h8 : k / 8 < (n + 7) / 8 := by omega
        go_wp2
        have h6 := HI.out.set k (ws[k / 8] / 2 ^ (k % 8 * 8) % 256)
        rw [unpk_step ws k n hlt hq] at h6
        have h7 := bl_set HB.out (p := ⟨w.heap.size, k, none⟩) (Nat.le_refl _) (.int .u8 (ws[k / 8] / 2 ^ (k % 8 * 8) % 256))
        go_roundw
        case rel => exact ⟨k + 1, by omega, by go_num, h6, h7⟩
        case measure => simp [intOf]; omega
      · obtain rfl : k = n := by omega
        go_wp2
        go_ret2
        exact ⟨rfl, by have h6 := HI.out; simpa using h6, HB.out⟩

set_option maxRecDepth 100000 in
set_option maxHeartbeats 1000000 in
theorem unpack_bad (w : World) (A : Option Addr) (c n : Nat) (ws : List Int) (hn : n ≤ 1000000000000) (hA : Rd .u64 w A ws)
    (hz' : ¬ n % 8 = 0) (hq : (n + 7) / 8 - 1 < ws.length) (hnn : 0 ≤ ws[(n + 7) / 8 - 1]) (htop : ¬ ws[(n + 7) / 8 - 1] / 2 ^ (n % 8 * 8) = 0) :
    Calls Try.prog 70 #[.slice A ((n + 7) / 8) c, .int .i64 (n : Int)] w fun e w' => e = .returned (.tuple #[.slice none 0 0, .int .i64 11]) ∧ w = w' := by
  obtain ⟨b, off, hAb, hbs, hc⟩ := hA.at_ hq
  have hm : ((n : Int) % 8 != 0) = true := by simp; omega
  have h1 : (ws[(n + 7) / 8 - 1] / 2 ^ (n % 8 * 8) != 0) = true := by simpa using htop
  have h9 : (n + 7) / 8 - 1 < (n + 7) / 8 := by omega
  have h1n : 1 ≤ (n + 7) / 8 := by omega
  clear hA htop hz'
  subst hAb
  go_enter Try.func70, Try.ntmps70
  go_wp2_with (go_at_call 80; refine (wordsOf_any _ _ hn).mono ?_; rintro e w' ⟨rfl, rfl⟩)
  go_ret2
  exact ⟨rfl, rfl⟩
end Go.Proofs.Ytlbgmoijepknbaa
