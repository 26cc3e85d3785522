/- Contracts of Encode and Decode of Array of Int. -/
import Derived.Test.YtlbgmoijepknbaaProg
import Derived.Test.YtlbgmoijepknbaaLib
import Derived.Test.YtlbgmoijepknbaaZ
import Derived.Test.YtlbgmoijepknbaaW
import Derived.Test.YtlbgmoijepknbaaC
import Derived.Test.YtlbgmoijepknbaaRep
import Derived.Test.YtlbgmoijepknbaaTail
namespace Go.Proofs.Ytlbgmoijepknbaa
open Go.RowKit
set_option linter.unusedVariables false

/-- The words of an array of at most N numbers. -/
def arrEnc (N : Nat) (l : List Int) : List Int := (l.length : Int) :: (l.map IntKind.u64.wrap ++ List.replicate (N - l.length) 0)
def arrPart (N : Nat) (l : List Int) (k : Nat) : List Int := (l.length : Int) :: ((l.take k).map IntKind.u64.wrap ++ List.replicate (N - k) 0)
theorem length_arrPart (N : Nat) (l : List Int) (k : Nat) (h : k ≤ l.length) (hN : l.length ≤ N) : (arrPart N l k).length = N + 1 := by
  simp [arrPart]; omega
theorem arrPart_step (N : Nat) (l : List Int) (k : Nat) (h : k < l.length) (hN : l.length ≤ N) :
    (arrPart N l k).set (1 + k) (IntKind.u64.wrap l[k]) = arrPart N l (k + 1) := by
  unfold arrPart
  rw [Nat.add_comm 1 k, List.set_cons_succ, List.set_append_right _ _ (by simp; omega), List.take_succ_eq_append_getElem h]
  have h1 : ((l.take k).map IntKind.u64.wrap).length = k := by simp; omega
  rw [h1, Nat.sub_self, show N - k = (N - (k + 1)) + 1 from by omega, List.replicate_succ]
  simp only [List.set_cons_zero, List.map_append, List.map_cons, List.map_nil, List.append_assoc, List.singleton_append]
theorem arrPart_all (N : Nat) (l : List Int) (k : Nat) (h : ¬ k < l.length) (hk : k ≤ l.length) : arrPart N l k = arrEnc N l := by
  have : k = l.length := by omega
  subst this
  simp [arrPart, arrEnc]

set_option maxRecDepth 100000 in
set_option maxHeartbeats 1000000 in
theorem arrIEncode_ok (w : World) (N : Nat) (hN : N ≤ 4095) (A : Option Addr) (ca : Nat) (l : List Int) (hA : Rd .i64 w A l) (hl : l.length ≤ N)
    (g off c : Nat) (xs : List Int) (hb : IB .u64 26 w g xs) (ho : off + (N + 1) ≤ xs.length) :
    Calls Try.prog 45 #[.agg #[.int .i64 (N : Int), .iface 80 (.agg #[])], .slice A l.length ca, .slice (some ⟨g, off, none⟩) (N + 1) c] w
      fun e w' => e = .returned (.bool true) ∧ IB .u64 26 w' g (splice xs off (arrEnc N l)) ∧ Ch (At g) w w' := by
  have HA := Lib.hid hA
  have HB := Lib.hid hb
  have HW : Hid (arrW (N : Int) = ((N + 1 : Nat) : Int)) := by show _ = _; rw [arrW_ok (by omega) (by omega)]; omega
  have hmk := fun W => run_make_z (P := Try.prog) 31 26 .u64 .i64 .i64 ((N : Int) + 1) (N + 1) (by omega) Try.underlying31 8 info_u64 (by omega) (by omega) W
  have hgl := hb.lt
  have h0 : (((N : Int) + 1) == 0) = false := by simp; omega
  clear hA hb
  go_enter Try.func45, Try.ntmps45
  go_wp2_with (first | (go_at_call 43; refine (arrIWords _ _).mono ?_; rw [HW.out]; rintro e w' ⟨rfl, hb⟩; obtain ⟨x, rfl⟩ := bx_of hb; clear hb) | (go_at_call 71; refine (sizeI_int _).mono ?_; rintro e w' ⟨rfl, hb⟩; obtain ⟨y, rfl⟩ := bx_of hb; clear hb))
  go_loopw [42, 10, 11, 12, 43, 44, 45, 46, 47, 48, 49, 50, 51, 52, 53, 54, 55, 56, 57, 58, 59, 60, 61, 62, 63, 64, 65, 66, 67] (fun i _ _ _ _ _ _ _ _ _ _ _ _ _ _ _ _ _ _ _ _ _ _ _ _ _ _ _ _ wr => ∃ k : Nat, k ≤ l.length ∧ i = .int .i64 k ∧ IB .u64 26 wr x.w.heap.size (arrPart N l k) ∧ Below (w.alloc (.cells #[.int .i64 (N : Int), .iface 80 (.agg #[])] 100)).heap.size (w.alloc (.cells #[.int .i64 (N : Int), .iface 80 (.agg #[])] 100)) wr) (fun i _ _ _ _ _ _ _ _ _ _ _ _ _ _ _ _ _ _ _ _ _ _ _ _ _ _ _ _ _ => l.length - (intOf i).toNat)
  case atStart => exact ⟨0, Nat.zero_le _, rfl, by have h1 := (IB.new (k := .u64) (e := 26) x.w ((List.replicate (N + 1) 0).set 0 ↑l.length)).below y.below (by simp); simpa [arrPart, List.replicate_succ] using h1, bl_bx (bl_alloc x.below _) y⟩
  case round =>
    obtain ⟨k, hk, rfl, hI, hB⟩ := hrel
    obtain ⟨z, rfl⟩ := bx_of hB
    have HI := Lib.hid hI
    clear hI hB
    by_cases hlt : k < l.length
    · obtain ⟨b, o, rfl, _, hc⟩ := (HA.out.below (bl_bx (bl_alloc (Below.refl _ _) _) z)).at_ hlt
      have hlen := length_arrPart N l k hk hl
      have HL := Lib.hid hlen
      clear hlen
      go_wp2
      refine wp_region_still_n 14 (by kernel_rfl) (by kernel_rfl) ?_
      simp only [List.take_succ_cons, List.take_zero, List.drop_succ_cons, List.drop_zero]
      repeat (go_big_quiet_step (fail))
      refine wpQuiet_nil ?_
      rintro _ ⟨nq, rfl⟩
      go_wp2_with fail
      refine (intEncode_ok _ _ _ _ (arrPart N l k) _ (HI.out.drewN _) (by rw [HL.out]; omega)).mono ?_
      rintro e w2 ⟨rfl, hI2, hC2⟩
      have HI2 := Lib.hid hI2
      have HC2 := Lib.hid hC2
      clear hI2 hC2
      go_wp2
      have h6 := HI2.out
      rw [arrPart_step N l k hlt hl] at h6
      have h7 := bl_ch (bl_drewN z.below nq) HC2.out (fun b hb => by have := x.size; simp at this; unfold At at hb; simp; omega)
      go_roundw
      case rel => exact ⟨k + 1, by omega, by go_num, h6, h7⟩
      case measure => simp [intOf]; omega
    · have hI0 := HI.out
      rw [arrPart_all N l k hlt hk] at hI0
      have hxs := x.size
      simp at hxs
      have hlen : (arrEnc N l).length = N + 1 := by simp [arrEnc]; omega
      obtain ⟨w1, hr1, hI1, hC1⟩ := run_copy_ints (P := Try.prog) z.w 31 31 3 26 Try.underlying31 size_u64 .u64 26 (some ⟨g, off, none⟩) (some ⟨x.w.heap.size, 0, none⟩) (N + 1) c (N + 1) (N + 1) g off xs (arrEnc N l) (HB.out.below (bl_bx (bl_alloc (Below.refl _ _) _) z) hgl) (by rw [hlen]; simp) (fun _ => rfl) (by rw [hlen]; exact ho) hI0.rd0
      have HR := Lib.hid hr1
      have HI1 := Lib.hid hI1
      have HC1 := Lib.hid hC1
      clear hr1 hI1 hC1 hI0 hxs hlen
      go_wp2
      rw [HR.out]
      go_wp2
      go_ret
      exact ⟨rfl, HI1.out, (Ch.of_below (bl_bx (bl_alloc (Below.refl _ _) _) z)).trans HC1.out (fun _ h _ => h)⟩
end Go.Proofs.Ytlbgmoijepknbaa
