/- Contract of the reference's Unname. -/
import Derived.Test.YtlbgmoijepknbaaRefN
namespace Go.Proofs.Ytlbgmoijepknbaa
open Go.RowKit
set_option linter.unusedVariables false

/-- What is left of word j behind k bytes. -/
def rst (x : Int) (k j : Nat) : Int := x / 2 ^ (min 8 (k - 8 * j) * 8)
theorem rst_zero (x : Int) (j : Nat) : rst x 0 j = x := by simp [rst]
theorem rst_step (x : Int) (k : Nat) : rst x (k + 1) (k / 8) = rst x k (k / 8) / 256 := by
  unfold rst
  rw [show min 8 (k + 1 - 8 * (k / 8)) * 8 = min 8 (k - 8 * (k / 8)) * 8 + 8 from by omega, Int.pow_add, ← Int.ediv_ediv_of_nonneg (Int.pow_nonneg (by omega))]
  rfl
theorem rst_other (x : Int) (k j : Nat) (hj : j ≠ k / 8) : rst x (k + 1) j = rst x k j := by
  unfold rst
  rw [show min 8 (k + 1 - 8 * j) * 8 = min 8 (k - 8 * j) * 8 from by omega]
theorem rst_byte (x : Int) (k : Nat) : rst x k (k / 8) = x / 2 ^ (k % 8 * 8) := by
  unfold rst
  rw [show min 8 (k - 8 * (k / 8)) * 8 = k % 8 * 8 from by omega]
theorem rst_le (x : Int) (k j : Nat) (h : 0 ≤ x) : rst x k j ≤ x := Int.ediv_le_self _ h
theorem rst_nonneg (x : Int) (k j : Nat) (h : 0 ≤ x) : 0 ≤ rst x k j := Int.ediv_nonneg h (Int.pow_nonneg (by omega))

set_option maxHeartbeats 400000 in
theorem refUnname_len (w : World) (A : Option Addr) (n c : Nat) (hn : n ≠ 3) :
    Calls Try.prog 41 #[.slice A n c] w fun e w' => e = .returned (.tuple #[.string ⟨#[]⟩, .bool false]) ∧ w = w' := by
  have h1 : ((n : Int) != 3) = true := by rw [bne_iff_ne]; omega
  go_enter Try.func41, Try.ntmps41
  go_wp2
  go_ret2
  exact ⟨rfl, rfl⟩

set_option maxHeartbeats 400000 in
theorem refUnname_big (w : World) (g off c : Nat) (x0 : Int) (hc : w.cell? ⟨g, off, none⟩ = some (.int .u64 x0)) (hx : 16 < x0) :
    Calls Try.prog 41 #[.slice (some ⟨g, off, none⟩) 3 c] w fun e w' => e = .returned (.tuple #[.string ⟨#[]⟩, .bool false]) ∧ w = w' := by
  go_enter Try.func41, Try.ntmps41
  go_wp2
  go_ret2
  exact ⟨rfl, rfl⟩

set_option maxRecDepth 100000 in
set_option maxHeartbeats 2000000 in
theorem refUnname_ok (w : World) (g off c n : Nat) (x1 x2 : Int) (hg : g < w.heap.size) (h0 : w.cell? ⟨g, off, none⟩ = some (.int .u64 (n : Int))) (hn : n ≤ 16) (hx1 : 0 ≤ x1) (hx2 : 0 ≤ x2) (hu1 : x1 < 18446744073709551616) (hu2 : x2 < 18446744073709551616)
    (h1 : w.cell? ⟨g, off + 1, none⟩ = some (.int .u64 x1)) (h2 : w.cell? ⟨g, off + 2, none⟩ = some (.int .u64 x2)) :
    Calls Try.prog 41 #[.slice (some ⟨g, off, none⟩) 3 c] w fun e w' => e = .returned (.tuple #[.string (strOf (unpk [x1, x2] n)), .bool (rst x1 n 0 == 0 && rst x2 n 1 == 0)]) ∧ Below w.heap.size w w' := by
  have hn' : ¬ (16 : Int) < (n : Int) := by omega
  go_enter Try.func41, Try.ntmps41
  go_wp2
  refine wp_region_still_n 6 (by kernel_rfl) (by kernel_rfl) ?_
  simp only [List.take_succ_cons, List.take_zero, List.drop_succ_cons, List.drop_zero]
  repeat (go_big_quiet_step (fail))
  refine wpQuiet_nil ?_
  rintro _ ⟨nq, rfl⟩
  go_wp2
  go_loopw [6, 4, 24, 25, 26, 27, 28, 29, 30, 31, 32, 33, 34, 35, 36, 37, 38, 39, 40, 41, 42, 43, 44, 45, 46, 47, 48, 49, 50, 51] (fun i v _ _ _ _ _ _ _ _ _ _ _ _ _ _ _ _ _ _ _ _ _ _ _ _ _ _ _ _ wr => ∃ (k : Nat) (A' : Option Addr) (c' : Nat), k ≤ n ∧ i = .int .i64 k ∧ v = .slice A' k c' ∧ OwnI .u8 5 wr w.heap.size A' c' (unpk [x1, x2] k) ∧ (∀ b, OwnB A' b → b ≠ w.heap.size + 1) ∧ IB .u64 26 wr (w.heap.size + 1) [rst x1 k 0, rst x2 k 1] ∧ Below w.heap.size w wr) (fun i _ _ _ _ _ _ _ _ _ _ _ _ _ _ _ _ _ _ _ _ _ _ _ _ _ _ _ _ _ _ => n - (intOf i).toNat)
  case atStart =>
    refine ⟨0, _, _, Nat.zero_le _, rfl, rfl, ?_, ?_, ?_, bl_alloc (bl_drewN (bl_alloc (Below.refl _ _) _) _) _⟩
    · exact ((OwnI.made (k := .u8) (e := 5) w 0 (by omega) (Nat.le_refl _)).drewN nq).alloc _
    · intro b hb
      have : w.heap.size = b := by simpa [OwnB] using hb
      omega
    · rw [rst_zero, rst_zero]
      exact IB.new_at .u64 26 _ (w.heap.size + 1) [x1, x2] (by simp)
  case round =>
    obtain ⟨k, A', c', hk, rfl, rfl, hO, hne, hI, hB⟩ := hrel
    have HO := Lib.hid hO
    have HI := Lib.hid hI
    have HB := Lib.hid hB
    have HN := Lib.hid hne
    have hk16 : k ≤ 16 := by omega
    have hw0 : wr.cell? ⟨g, off, none⟩ = some (.int .u64 (n : Int)) := (hB.cell (p := ⟨g, off, none⟩) hg).trans h0
    by_cases hlt : k < n
    · obtain ⟨y, hy, hyn, hyu⟩ : ∃ y, y = [rst x1 k 0, rst x2 k 1][k / 8]?.getD 0 ∧ 0 ≤ y ∧ y < 18446744073709551616 := ⟨_, rfl, by
        rcases Nat.lt_or_ge k 8 with h | h
        · rw [show k / 8 = 0 from by omega]; exact ⟨rst_nonneg _ _ _ hx1, Int.lt_of_le_of_lt (rst_le _ _ _ hx1) hu1⟩
        · rw [show k / 8 = 1 from by omega]; exact ⟨rst_nonneg _ _ _ hx2, Int.lt_of_le_of_lt (rst_le _ _ _ hx2) hu2⟩⟩
      have hcell : wr.cell? ⟨w.heap.size + 1, k / 8, none⟩ = some (.int .u64 y) := by
        rw [hy]
        rcases Nat.lt_or_ge k 8 with h | h
        · rw [show k / 8 = 0 from by omega]; exact hI.cell (i := 0) (by simp)
        · rw [show k / 8 = 1 from by omega]; exact hI.cell (i := 1) (by simp)
      have hfr := hI.frozen (k / 8)
      have hgl := hI.lt
      have hk8 : k / 8 < 2 := by omega
      have HY := Lib.hid hy
      have HLk := Lib.hid (length_unpk [x1, x2] k)
      clear hI hB hO hne hy
      go_wp2_with (at_builtin; refine wpList_append_ints rfl (.tmp 32) (.tmp 40) 156 rfl 5 .u8 1 Try.underlying156 info_u8 (by omega) w.heap.size A' c' (unpk [x1, x2] k) k _ _ _ [y % 256] rfl rfl HLk.out (HO.out.alloc _) rfl (rd_one _ _ _ _) (by rw [HLk.out]; simp; omega) (by simp; have := HB.out.size; omega) ?_; intro A2 c2 w2 HO3 HC3 HW3; have hcell2 : w2.cell? ⟨w.heap.size + 1, k / 8, none⟩ = some (.int .u64 y) := (by rw [HC3.out.cells _ _ (by simp; omega) (fun h => HN.out _ h rfl), World.cell?_alloc_past _ _ _ hgl]; exact hcell); have hfr2 : w2.frozen? ⟨w.heap.size + 1, k / 8, none⟩ = false := (by rw [HC3.out.frozens _ _ (by simp; omega) (fun h => HN.out _ h rfl), World.frozen?_alloc_past _ _ _ hgl]; exact hfr))
      have hI2 : IB .u64 26 w2 (w.heap.size + 1) [rst x1 k 0, rst x2 k 1] := (HI.out.alloc _).ch HC3.out (fun h => HN.out _ h rfl)
      have h6 := hI2.set (k / 8) (y / 256)
      have e6 : [rst x1 k 0, rst x2 k 1].set (k / 8) (y / 256) = [rst x1 (k + 1) 0, rst x2 (k + 1) 1] := by
        rw [HY.out]
        rcases Nat.lt_or_ge k 8 with h | h
        · have hj : k / 8 = 0 := by omega
          have e1 := rst_step x1 k
          rw [hj] at e1 ⊢
          rw [e1, rst_other x2 k 1 (by omega)]; rfl
        · have hj : k / 8 = 1 := by omega
          have e1 := rst_step x2 k
          rw [hj] at e1 ⊢
          rw [e1, rst_other x1 k 0 (by omega)]; rfl
      rw [e6] at h6
      have h7 := bl_set (bl_ch (bl_alloc HB.out _) HC3.out (fun b hb => (HO.out.lt hb).1)) (p := ⟨w.heap.size + 1, k / 8, none⟩) (by show w.heap.size ≤ w.heap.size + 1; omega) (.int .u64 (y / 256))
      have hO4 : OwnI .u8 5 (w2.setCell ⟨w.heap.size + 1, k / 8, none⟩ (.int .u64 (y / 256))) w.heap.size A2 c2 (unpk [x1, x2] (k + 1)) := by
        have h8 := HO3.out
        have e8 : unpk [x1, x2] k ++ [y % 256] = unpk [x1, x2] (k + 1) := by
          rw [unpk_succ [x1, x2] k (by simp; omega), HY.out]
          congr 2
          rcases Nat.lt_or_ge k 8 with h | h
          · have hj : k / 8 = 0 := by omega
            have e1 := rst_byte x1 k
            rw [hj] at e1
            simp [hj, e1]
          · have hj : k / 8 = 1 := by omega
            have e1 := rst_byte x2 k
            rw [hj] at e1
            simp [hj, e1]
        rw [e8] at h8
        refine h8.keep fun b hb => Below.heap_setCell _ _ _ _ ?_
        rcases HW3.out b hb with h | h
        · exact HN.out b h
        · simp at h; show b ≠ w.heap.size + 1; omega
      have hN4 : ∀ b, OwnB A2 b → b ≠ w.heap.size + 1 := fun b hb => by
        rcases HW3.out b hb with h | h
        · exact HN.out b h
        · simp at h; omega
      go_roundw
      case rel => exact ⟨k + 1, A2, c2, by omega, by go_num, rfl, hO4, hN4, h6, h7⟩
      case measure => simp [intOf]; omega
    · obtain rfl : k = n := by omega
      have c0 := hI.cell (i := 0) (by simp)
      have c1 := hI.cell (i := 1) (by simp)
      have hgl := hI.lt
      simp only [List.getElem_cons_zero, List.getElem_cons_succ] at c0 c1
      have hcv : ∀ m, (convert 156 9 (.slice A' k c')).run Try.prog (wr.drewN m) = .ok (.string (strOf (unpk [x1, x2] k))) (wr.drewN m) := fun m =>
        run_bytes_strA (P := Try.prog) (wr.drewN m) 156 9 5 Try.underlying156 Try.underlying5 Try.underlying9 A' (by rcases hO.cases with ⟨h, _⟩ | ⟨g', _, h, _⟩; exact .inl h; exact .inr ⟨g', h⟩) k c' _ (length_unpk _ _) (hO.drewN m).rd
      clear hI hB hO hne
      cases hr0 : rst x1 k 0 == 0
      · go_wp2
        go_quiet (fail)
        go_wp2
        go_ret2
        exact ⟨by rw [hr0]; rfl, bl_drewN HB.out _⟩
      · go_wp2
        go_quiet (fail)
        go_wp2
        go_ret2
        exact ⟨by rw [hr0]; rfl, bl_drewN HB.out _⟩
end Go.Proofs.Ytlbgmoijepknbaa
