/- Contracts of record.Plan at a name. -/
import Derived.Test.YtlbgmoijepknbaaNameE
import Derived.Test.YtlbgmoijepknbaaApp
namespace Go.Proofs.Ytlbgmoijepknbaa
open Go.RowKit
set_option linter.unusedVariables false

/-- make of a slice of pairs of words. -/
theorem run_make_pairs {P : Program} (t e : TypeId) (k kl kc : IntKind) (z : Int) (n : Nat) (hz : z = (n : Int)) (ht : P.underlying t = some (.slice e)) (hinfo : (P.info? e).map (fun i => (i.zero, i.size, i.bytes)) = some (some (.agg #[.int k 0, .int k 0]), 2, 16))
    (hn : n ≤ 1000000000000) (w : World) :
    (Instr.makeSlice t (.int kl z) (.int kc z)).run P w = .ok (.slice (some ⟨w.heap.size, 0, none⟩) n n) (w.alloc (.cells (ia k (List.replicate (2 * n) (0 : Int))) e)) := by
  subst hz
  cases hi : P.info? e with
  | none => rw [hi] at hinfo; cases hinfo
  | some i =>
    rw [hi] at hinfo
    simp only [Option.map_some, Option.some.injEq, Prod.mk.injEq] at hinfo
    obtain ⟨hz, hs, hb⟩ := hinfo
    have hr := run_make (P := P) w t e i (.agg #[.int k 0, .int k 0]) ht hi hz kl kc n n (by omega) (by omega) (by rw [hb]; omega) (by omega)
    rw [hr, hs]
    simp only [Int.toNat_natCast]
    congr 3
    congr 1
    simp only [madeCells, Value.cells, ia, List.map_replicate]
    apply Array.ext
    · simp; omega
    · intro i h1 h2
      rcases Nat.mod_two_eq_zero_or_one i with h | h <;> simp [h]

/-- The writes of the first k words. -/
def pf (off : Int) (ys : List Int) (k : Nat) : List Int := (List.range k).flatMap fun (i : Nat) => [off + (i : Int) * 8, ys[i]?.getD 0]
theorem pf_succ (off : Int) (ys : List Int) (k : Nat) (h : k < ys.length) : pf off ys (k + 1) = pf off ys k ++ [off + (k : Int) * 8, ys[k]] := by
  simp [pf, List.range_succ, h]
theorem length_pf (off : Int) (ys : List Int) (k : Nat) : (pf off ys k).length = 2 * k := by
  induction k with
  | zero => rfl
  | succ k ih =>
    have : pf off ys (k + 1) = pf off ys k ++ [off + (k : Int) * 8, ys[k]?.getD 0] := by simp [pf, List.range_succ]
    rw [this, List.length_append, ih]; simp; omega
theorem pf_step (off : Int) (ys : List Int) (k n : Nat) (hk : k < n) (h : k < ys.length) :
    ((pf off ys k ++ List.replicate (2 * (n - k)) 0).set (k * 2) (off + (k : Int) * 8)).set (k * 2 + 1) ys[k] = pf off ys (k + 1) ++ List.replicate (2 * (n - (k + 1))) 0 := by
  have hl := length_pf off ys k
  rw [Nat.mul_comm k 2]
  rw [List.set_append_right _ _ (by omega), hl, Nat.sub_self, List.set_append_right _ _ (by omega), hl, show 2 * k + 1 - 2 * k = 1 from by omega, pf_succ off ys k h, show 2 * (n - k) = 2 * (n - (k + 1)) + 1 + 1 from by omega, List.replicate_succ, List.replicate_succ]
  simp

theorem info_write : (Try.prog.info? 75).map (fun i => (i.zero, i.size, i.bytes)) = some (some (.agg #[.int .u64 0, .int .u64 0]), 2, 16) := by kernel_rfl

set_option maxRecDepth 100000 in
set_option maxHeartbeats 1000000 in
theorem planS_ok (w : World) (off : Nat) (s : ByteArray) (hs : s.size ≤ 16) (ho : off % 8 = 0) (hb : off ≤ 18446744073709551591) :
    Calls Try.prog 27 #[.int .u64 (off : Int), .iface 73 (.agg #[]), .string s] w fun e w' => (∃ g, e = .returned (.tuple #[.slice (some ⟨g, 0, none⟩) 3 3, .int .i64 0]) ∧ IB .u64 75 w' g (pf off (nameEnc (bytesOf s)) 3)) ∧ Below w.heap.size w w' := by
  have h8 : ((off : Int) % 8 != 0) = false := by simp; omega
  have hmk := fun W => run_make_z (P := Try.prog) 31 26 .u64 .i64 .i64 3 3 rfl Try.underlying31 8 info_u64 (by omega) (by omega) W
  have hmp := fun W => run_make_pairs (P := Try.prog) 61 75 .u64 .i64 .i64 3 3 rfl Try.underlying61 info_write (by omega) W
  have hle : ¬ (18446744073709551591 : Int) < (off : Int) := by omega
  go_enter Try.func27, Try.ntmps27
  go_wp2_with (go_at_call 67; refine (sizeS_name _).mono ?_; rintro e w' ⟨rfl, hb⟩; obtain ⟨x, rfl⟩ := bx_of hb; clear hb)
  refine (nameEncode_ok _ s hs x.w.heap.size 0 3 [0, 0, 0] (IB.new (k := .u64) (e := 26) x.w [0, 0, 0]) (by simp) (by omega)).mono ?_
  rintro e w1 ⟨rfl, hI1, hC1⟩
  have hlen : (nameEnc (bytesOf s)).length = 3 := length_nameEnc _ (by rw [length_bytesOf]; exact hs)
  have e1 : splice [0, 0, 0] 0 (nameEnc (bytesOf s)) = nameEnc (bytesOf s) := by simp [splice, hlen]
  rw [e1] at hI1
  generalize hy : nameEnc (bytesOf s) = ys at *
  have HY := Lib.hid hy
  clear hy
  have HL := Lib.hid hlen
  have HI1 := Lib.hid hI1
  have hg := hI1.lt
  have HB1 := Lib.hid (bl_ch (bl_alloc x.below _) hC1 (fun b hb => by unfold At at hb; have := x.size; omega))
  have hws : w.heap.size ≤ x.w.heap.size := x.size
  clear hI1 hC1 e1 hlen hmk
  go_wp2
  clear hmp
  go_loopw [41, 11, 12, 42, 43, 44, 45, 46, 47, 48, 49, 50, 51, 52, 53, 54, 55, 56] (fun i _ _ _ _ _ _ _ _ _ _ _ _ _ _ _ _ _ wr => ∃ k : Nat, k ≤ 3 ∧ i = .int .i64 k ∧ IB .u64 75 wr w1.heap.size (pf off ys k ++ List.replicate (2 * (3 - k)) 0) ∧ Below w1.heap.size w1 wr) (fun i _ _ _ _ _ _ _ _ _ _ _ _ _ _ _ _ _ _ => 3 - (intOf i).toNat)
  case atStart => exact ⟨0, Nat.zero_le _, rfl, IB.new w1 _, bl_alloc (Below.refl _ _) _⟩
  case round =>
    obtain ⟨k, hk, rfl, hI, hB⟩ := hrel
    have HI := Lib.hid hI
    have HB := Lib.hid hB
    by_cases hlt : k < 3
    · have hky : k < ys.length := by have := HL.out; omega
      have hc := (HI1.out.below hB hg).cell hky
      have hpl := length_pf off ys k
      have hf0 := hI.frozen (k * 2)
      have hf1 := hI.frozen (k * 2 + 1)
      obtain ⟨v0, hv0⟩ : ∃ v, wr.cell? ⟨w1.heap.size, k * 2, none⟩ = some (.int .u64 v) := ⟨_, hI.cell (i := k * 2) (by simp; omega)⟩
      obtain ⟨v1, hv1⟩ : ∃ v, wr.cell? ⟨w1.heap.size, k * 2 + 1, none⟩ = some (.int .u64 v) := ⟨_, hI.cell (i := k * 2 + 1) (by simp; omega)⟩
      clear hI hB hpl
      go_wp2
      have h6 := (HI.out.set (k * 2) ((off : Int) + (k : Int) * 8)).set (k * 2 + 1) ys[k]
      rw [pf_step off ys k 3 hlt hky] at h6
      have h7 := bl_set (bl_set HB.out (p := ⟨w1.heap.size, k * 2, none⟩) (Nat.le_refl _) (.int .u64 ((off : Int) + (k : Int) * 8))) (p := ⟨w1.heap.size, k * 2 + 1, none⟩) (Nat.le_refl _) (.int .u64 ys[k])
      go_roundw
      case rel => exact ⟨k + 1, by omega, by go_num, h6, h7⟩
      case measure => simp [intOf]; omega
    · obtain rfl : k = 3 := by omega
      go_wp2
      go_ret2
      exact ⟨⟨_, rfl, by have h6 := HI.out; rw [HY.out]; simpa using h6⟩, HB1.out.trans (HB.out.mono HB1.out.size)⟩
set_option maxRecDepth 100000 in
set_option maxHeartbeats 1000000 in
theorem planS_off (w : World) (off : Nat) (s : ByteArray) (hoff : off < 18446744073709551616) (ho : off % 8 ≠ 0 ∨ 18446744073709551591 < off) :
    Calls Try.prog 27 #[.int .u64 (off : Int), .iface 73 (.agg #[]), .string s] w fun e w' => e = .returned (.tuple #[.slice none 0 0, .int .i64 1]) ∧ Below w.heap.size w w' := by
  by_cases h : off % 8 = 0
  · have h8 : ((off : Int) % 8 != 0) = false := by simp; omega
    have hle : (18446744073709551591 : Int) < (off : Int) := by omega
    clear ho
    go_enter Try.func27, Try.ntmps27
    go_wp2_with (go_at_call 67; refine (sizeS_name _).mono ?_; rintro e w' ⟨rfl, hb⟩; obtain ⟨x, rfl⟩ := bx_of hb; clear hb)
    go_ret2
    exact ⟨rfl, (by repeat (first | with_reducible exact Below.refl _ _ | with_reducible refine bl_alloc ?_ _ | with_reducible refine bl_drew ?_ | with_reducible refine bl_drewN ?_ _ | with_reducible refine bl_bx ?_ _ | with_reducible exact BX.below _ | assumption))⟩
  · have h8 : ((off : Int) % 8 != 0) = true := by simp; omega
    clear ho
    go_enter Try.func27, Try.ntmps27
    go_wp2_with (go_at_call 67; refine (sizeS_name _).mono ?_; rintro e w' ⟨rfl, hb⟩; obtain ⟨x, rfl⟩ := bx_of hb; clear hb)
    go_ret2
    exact ⟨rfl, (by repeat (first | with_reducible exact Below.refl _ _ | with_reducible refine bl_alloc ?_ _ | with_reducible refine bl_drew ?_ | with_reducible refine bl_drewN ?_ _ | with_reducible refine bl_bx ?_ _ | with_reducible exact BX.below _ | assumption))⟩

set_option maxRecDepth 100000 in
set_option maxHeartbeats 1000000 in
theorem planS_long (w : World) (off : Nat) (s : ByteArray) (hs : 16 < s.size) (ho : off % 8 = 0) (hb : off ≤ 18446744073709551591) :
    Calls Try.prog 27 #[.int .u64 (off : Int), .iface 73 (.agg #[]), .string s] w fun e w' => e = .returned (.tuple #[.slice none 0 0, .int .i64 1]) ∧ Below w.heap.size w w' := by
  have h8 : ((off : Int) % 8 != 0) = false := by simp; omega
  have hmk := fun W => run_make_z (P := Try.prog) 31 26 .u64 .i64 .i64 3 3 rfl Try.underlying31 8 info_u64 (by omega) (by omega) W
  have hle : ¬ (18446744073709551591 : Int) < (off : Int) := by omega
  go_enter Try.func27, Try.ntmps27
  go_wp2_with (first | (go_at_call 67; refine (sizeS_name _).mono ?_; rintro e w' ⟨rfl, hb⟩; obtain ⟨x, rfl⟩ := bx_of hb; clear hb) | (go_at_call 40; refine (nameEncode_long _ s _ _ hs).mono ?_; rintro e w' ⟨rfl, hb⟩; obtain ⟨y, rfl⟩ := bx_of hb; clear hb))
  go_ret2
  exact ⟨rfl, (by repeat (first | with_reducible exact Below.refl _ _ | with_reducible refine bl_alloc ?_ _ | with_reducible refine bl_drew ?_ | with_reducible refine bl_drewN ?_ _ | with_reducible refine bl_bx ?_ _ | with_reducible exact BX.below _ | assumption))⟩
end Go.Proofs.Ytlbgmoijepknbaa
