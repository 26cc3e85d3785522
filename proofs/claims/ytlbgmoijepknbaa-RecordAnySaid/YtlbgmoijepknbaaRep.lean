/- Contract of slices.Repeat of one number, and of the law's blank. -/
import Derived.Test.YtlbgmoijepknbaaProg
import Derived.Test.YtlbgmoijepknbaaLib
import Derived.Test.YtlbgmoijepknbaaMul
namespace Go.Proofs.Ytlbgmoijepknbaa
open Go.RowKit

theorem info_u64 : (Try.prog.info? 26).map (fun i => (i.zero, i.size, i.bytes)) = some (some (.int .u64 0), 1, 8) := by kernel_rfl
theorem size_u64 : (Try.prog.info? 26).map (·.size) = some 1 := by kernel_rfl

theorem rep_splice0 (n : Nat) (v : Int) (ys : List Int) (h : ys = List.replicate (min 1 n) v) : splice (List.replicate n (0 : Int)) 0 ys = List.replicate (min 1 n) v ++ List.replicate (n - min 1 n) 0 := by
  subst h; simp [splice]
theorem rep_splice (n k m : Nat) (v : Int) (hm : m = min k (n - k)) (hk : k ≤ n) : splice (List.replicate k v ++ List.replicate (n - k) 0) k (List.replicate m v) = List.replicate (k + m) v ++ List.replicate (n - (k + m)) 0 := by
  subst hm
  unfold splice
  rw [List.take_left' (by simp), List.length_replicate, List.drop_append, List.length_replicate, List.drop_of_length_le (by simp), ← List.append_assoc, List.replicate_append_replicate]
  simp only [List.nil_append, List.drop_replicate]
  congr 2
  omega

set_option maxRecDepth 100000 in
set_option maxHeartbeats 1000000 in
theorem repeat1 (w : World) (b off c : Nat) (v : Int) (n : Nat) (hn : n ≤ 1000000) (hv : w.cell? ⟨b, off, none⟩ = some (.int .u64 v)) (hb : b < w.heap.size) :
    Calls Try.prog 68 #[.slice (some ⟨b, off, none⟩) 1 c, .int .i64 (n : Int)] w fun e w' => e = .returned (.slice (some ⟨w.heap.size, 0, none⟩) n n) ∧ IB .u64 26 w' w.heap.size (List.replicate n v) ∧ Below w.heap.size w w' := by
  have hmk := fun W => run_make_ints (P := Try.prog) 31 26 .u64 .i64 .i64 n Try.underlying31 8 info_u64 (by omega) (by omega) W
  go_enter Try.func68, Try.ntmps68
  go_wp2_with (go_at_call 79; refine (mul1_any n hn _).mono ?_; rintro e w' ⟨rfl, rfl⟩)
  obtain ⟨w1, hr1, hI1, hC1⟩ := run_copy_ints (P := Try.prog) (w.alloc (.cells (ia .u64 (List.replicate n 0)) 26)) 31 31 3 26 Try.underlying31 size_u64 .u64 26 (some ⟨w.heap.size, 0, none⟩) (some ⟨b, off, none⟩) n n 1 c w.heap.size 0 (List.replicate n 0) (List.replicate (min 1 n) v) (IB.new _ _) List.length_replicate (fun _ => rfl) (by rw [List.length_replicate, List.length_replicate]; omega)
    (by
      have : Rd .u64 (w.alloc (.cells (ia .u64 (List.replicate n 0)) 26)) (some ⟨b, off, none⟩) [v] := Rd.alloc (.inr ⟨b, off, rfl, hb, fun i hi => by
        have : i = 0 := by simpa using hi
        subst this; simpa using hv⟩) _
      have h2 := this.take (min 1 n)
      have h3 : [v].take (min 1 n) = List.replicate (min 1 n) v := by
        rcases n with _ | n
        · simp
        · have : min 1 (n + 1) = 1 := by omega
          rw [this]; rfl
      rwa [h3] at h2)
  rw [hr1]
  rw [rep_splice0 n v _ rfl] at hI1
  have HI1 := Lib.hid hI1
  have HC1 := Lib.hid (bl_ch (bl_alloc (Below.refl _ w) (.cells (ia .u64 (List.replicate n 0)) 26)) hC1 (fun b hb => by unfold At at hb; omega))
  clear hr1 hI1 hC1
  go_wp2
  go_loopw [8, 34, 35, 36, 37, 38, 39, 40, 41, 42, 43, 44, 45, 46] (fun i _ _ _ _ _ _ _ _ _ _ _ _ _ wr => ∃ k : Nat, min 1 n ≤ k ∧ k ≤ n ∧ i = .int .i64 k ∧ IB .u64 26 wr w.heap.size (List.replicate k v ++ List.replicate (n - k) 0) ∧ Below w.heap.size w wr) (fun i _ _ _ _ _ _ _ _ _ _ _ _ _ _ => n - (intOf i).toNat)
  case atStart => exact ⟨min 1 n, Nat.le_refl _, by omega, rfl, HI1.out, HC1.out⟩
  case round =>
    obtain ⟨k, hk1, hk, rfl, hI, hB⟩ := hrel
    have HI := Lib.hid hI
    have HB := Lib.hid hB
    clear hI hB
    by_cases hlt : k < n
    · have hk0 : 1 ≤ k := by omega
      have hne : ¬ n = k := by omega
      have hsum : IntKind.i64.wrap ((k : Int) + ((min k (n - k) : Nat) : Int)) = ((k + min k (n - k) : Nat) : Int) := by rw [IntWalk.i64_in _ (by omega)]; omega
      have hmm : k + min k (n - k) ≤ n ∧ 1 ≤ min k (n - k) := by omega
      obtain ⟨hm1, hm2⟩ := hmm
      go_wp2
      go_region_law (refine step_copy_ints rfl (.tmp 41) (.tmp 44) 31 31 rfl 26 Try.underlying31 size_u64 .u64 26 (some ⟨w.heap.size, k, none⟩) (some ⟨w.heap.size, 0, none⟩) (n - k) (n - k) k n (by go_simp) (by go_simp) w.heap.size k (List.replicate k v ++ List.replicate (n - k) 0) (List.replicate (min k (n - k)) v) HI.out List.length_replicate (fun _ => rfl) (by simp; omega) (by have h5 := (HI.out.rd 0 (min k (n - k))); rwa [List.drop_zero, List.take_append_of_le_length (by simp; omega), List.take_replicate, Nat.min_eq_left (by omega)] at h5) ?_; intro w2 HI2 hC2)
      go_simp
      have h6 := HI2.out
      rw [rep_splice n k _ v rfl hk] at h6
      have h7 : Below w.heap.size w w2 := bl_ch (bl_drew HB.out) hC2 (fun b hb => by unfold At at hb; omega)
      go_roundw
      case rel => (repeat apply Exists.intro); refine ⟨?_, rfl⟩; exact ⟨k + min k (n - k), by omega, by omega, by go_num, h6, h7⟩
      case measure => simp [intOf]; omega
    · obtain rfl : k = n := by omega
      go_wp2
      go_ret
      exact ⟨rfl, by have h6 := HI.out; simpa using h6, HB.out⟩

set_option maxHeartbeats 400000 in
theorem blank_any (w : World) (n : Nat) (hn : n ≤ 1000000) :
    Calls Try.prog 28 #[.int .i64 (n : Int)] w fun e w' => e = .returned (.slice (some ⟨w.heap.size + 1, 0, none⟩) n n) ∧ IB .u64 26 w' (w.heap.size + 1) (List.replicate n 7) ∧ Below w.heap.size w w' := by
  go_enter Try.func28, Try.ntmps28
  go_wp2_with (go_at_call 68; refine (repeat1 _ w.heap.size 0 1 7 n hn (by go_simp) (by simp)).mono ?_; rintro e w' ⟨rfl, hI, hb⟩)
  go_ret
  exact ⟨by simp, by simpa using hI, bl_bx (bl_alloc (Below.refl _ _) _) ⟨_, hb⟩⟩
end Go.Proofs.Ytlbgmoijepknbaa
