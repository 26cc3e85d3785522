/- Contract of Name.Encode. -/
import Derived.Test.YtlbgmoijepknbaaPk2
import Derived.Test.YtlbgmoijepknbaaStr
import Derived.Test.YtlbgmoijepknbaaW
import Derived.Deep.RegionLaw
namespace Go.Proofs.Ytlbgmoijepknbaa
open Go.RowKit
set_option linter.unusedVariables false

/-- The words of a name. -/
def nameEnc (bs : List Int) : List Int := (bs.length : Int) :: (pks bs bs.length ++ List.replicate (2 - (bs.length + 7) / 8) 0)
theorem length_nameEnc (bs : List Int) (h : bs.length ≤ 16) : (nameEnc bs).length = 3 := by
  simp [nameEnc, length_pks]; omega

set_option maxHeartbeats 400000 in
theorem nameEncode_len (w : World) (s : ByteArray) (A : Option Addr) (n c : Nat) (hn : n ≠ 3) :
    Calls Try.prog 40 #[.agg #[], .string s, .slice A n c] w fun e w' => e = .returned (.bool false) ∧ Below w.heap.size w w' := by
  have h1 : ((n : Int) != 3) = true := by rw [bne_iff_ne]; omega
  go_enter Try.func40, Try.ntmps40
  go_wp2_with (go_at_call 39; refine (nameWords _).mono ?_; rintro e w' ⟨rfl, hb⟩; obtain ⟨x, rfl⟩ := bx_of hb)
  go_ret
  exact ⟨rfl, (by repeat (first | with_reducible exact Below.refl _ _ | with_reducible refine bl_alloc ?_ _ | with_reducible refine bl_drew ?_ | with_reducible refine bl_drewN ?_ _ | with_reducible refine bl_bx ?_ _ | with_reducible exact BX.below _ | with_reducible refine bl_set ?_ (by first | (exact Nat.le_refl _) | (simp; done) | (simp; omega)) _ | assumption))⟩

set_option maxHeartbeats 400000 in
theorem nameEncode_long (w : World) (s : ByteArray) (A : Option Addr) (c : Nat) (hs : 16 < s.size) :
    Calls Try.prog 40 #[.agg #[], .string s, .slice A 3 c] w fun e w' => e = .returned (.bool false) ∧ Below w.heap.size w w' := by
  have hs' : (16 : Int) < (s.size : Int) := by omega
  go_enter Try.func40, Try.ntmps40
  go_wp2_with (go_at_call 39; refine (nameWords _).mono ?_; rintro e w' ⟨rfl, hb⟩; obtain ⟨x, rfl⟩ := bx_of hb)
  go_ret
  exact ⟨rfl, (by repeat (first | with_reducible exact Below.refl _ _ | with_reducible refine bl_alloc ?_ _ | with_reducible refine bl_drew ?_ | with_reducible refine bl_drewN ?_ _ | with_reducible refine bl_bx ?_ _ | with_reducible exact BX.below _ | with_reducible refine bl_set ?_ (by first | (exact Nat.le_refl _) | (simp; done) | (simp; omega)) _ | assumption))⟩

theorem pack_s (w : World) (s : ByteArray) (hs : s.size ≤ 16) (c : Nat) :
    Calls Try.prog 69 #[.slice (some ⟨w.heap.size, 0, none⟩) s.size c] (Lib.bytesWorld w 5 s) fun e w' => e = .returned (.slice (some ⟨w.heap.size + 1, 0, none⟩) ((s.size + 7) / 8) ((s.size + 7) / 8)) ∧ Hid (IB .u64 26 w' (w.heap.size + 1) (pks (bytesOf s) s.size)) ∧ Hid (Below w.heap.size w w') := by
  have h := pack_any (Lib.bytesWorld w 5 s) (some ⟨w.heap.size, 0, none⟩) c (bytesOf s) (by rw [length_bytesOf]; omega) (rd_bytesWorld w 5 s) (bytesOf_bound s)
  rw [length_bytesOf, Lib.bytesWorld_size] at h
  refine h.mono ?_
  rintro e w' ⟨he, hI, hB⟩
  exact ⟨he, hI, (bytesWorld_below w 5 s).trans (hB.mono (by omega))⟩

theorem cut3 (xs : List Int) (off : Nat) (ho : off + 3 ≤ xs.length) : ∃ pre x y z post, xs = pre ++ x :: y :: z :: post ∧ pre.length = off := by
  refine ⟨xs.take off, xs[off], xs[off + 1], xs[off + 2], xs.drop (off + 3), ?_, by simp; omega⟩
  have h1 : xs.drop off = xs[off] :: xs[off + 1] :: xs[off + 2] :: xs.drop (off + 3) := by
    rw [List.drop_eq_getElem_cons (by omega), List.drop_eq_getElem_cons (by omega), List.drop_eq_getElem_cons (by omega)]
  rw [← h1, List.take_append_drop]
theorem splice_mid (pre mid post cs : List Int) (n : Nat) (hn : pre.length = n) (h : cs.length = mid.length) : splice (pre ++ (mid ++ post)) n cs = pre ++ (cs ++ post) := by
  subst hn
  unfold splice
  rw [List.take_left, h, ← List.append_assoc pre mid post, List.drop_left' (by simp)]
theorem splice_3 (xs p : List Int) (v : Int) (off : Nat) (hp : p.length ≤ 2) (ho : off + 3 ≤ xs.length) :
    splice ((splice xs off (List.replicate 3 0)).set off v) (off + 1) p = splice xs off (v :: (p ++ List.replicate (2 - p.length) 0)) := by
  obtain ⟨pre, x, y, z, post, rfl, rfl⟩ := cut3 xs off ho
  have e0 : splice (pre ++ ([x, y, z] ++ post)) pre.length (List.replicate 3 (0 : Int)) = pre ++ ([0, 0, 0] ++ post) := splice_mid _ _ _ _ _ rfl rfl
  have e1 : (pre ++ ([0, 0, 0] ++ post)).set pre.length v = pre ++ ([v, 0, 0] ++ post) := by simp
  have e2 : splice (pre ++ ([x, y, z] ++ post)) pre.length (v :: (p ++ List.replicate (2 - p.length) 0)) = pre ++ ((v :: (p ++ List.replicate (2 - p.length) 0)) ++ post) := splice_mid _ _ _ _ _ rfl (by simp; omega)
  have e3 : splice ((pre ++ [v]) ++ (List.replicate p.length 0 ++ (List.replicate (2 - p.length) 0 ++ post))) (pre.length + 1) p = (pre ++ [v]) ++ (p ++ (List.replicate (2 - p.length) 0 ++ post)) := splice_mid _ _ _ _ _ (by simp) (by simp)
  have e4 : pre ++ ([v, 0, 0] ++ post) = (pre ++ [v]) ++ (List.replicate p.length 0 ++ (List.replicate (2 - p.length) 0 ++ post)) := by
    rw [← List.append_assoc (List.replicate p.length (0 : Int)), List.replicate_append_replicate, show p.length + (2 - p.length) = 2 from by omega]
    simp [List.replicate]
  show splice ((splice (pre ++ ([x, y, z] ++ post)) pre.length (List.replicate 3 0)).set pre.length v) (pre.length + 1) p = splice (pre ++ ([x, y, z] ++ post)) pre.length _
  rw [e0, e1, e4, e3, e2]
  simp
theorem splice_name (xs bs : List Int) (off : Nat) (hb : bs.length ≤ 16) (ho : off + 3 ≤ xs.length) :
    splice ((splice xs off (List.replicate 3 0)).set off (bs.length : Int)) (off + 1) (pks bs bs.length) = splice xs off (nameEnc bs) := by
  rw [splice_3 xs _ _ off (by rw [length_pks]; omega) ho, length_pks]; rfl

theorem zero_u64 (w : World) : (zeroValue 26).run Try.prog w = .ok (.int .u64 0) w := by kernel_rfl

set_option maxRecDepth 100000 in
set_option maxHeartbeats 1000000 in
theorem nameEncode_ok (w : World) (s : ByteArray) (hs : s.size ≤ 16) (g off c : Nat) (xs : List Int) (hb : IB .u64 26 w g xs) (ho : off + 3 ≤ xs.length) (hc : 3 ≤ c) :
    Calls Try.prog 40 #[.agg #[], .string s, .slice (some ⟨g, off, none⟩) 3 c] w fun e w' => e = .returned (.bool true) ∧ IB .u64 26 w' g (splice xs off (nameEnc (bytesOf s))) ∧ Ch (At g) w w' := by
  have hs' : (s.size : Int) ≤ 16 := by omega
  have HB := Lib.hid hb
  have hgl := hb.lt
  have hcv := fun W => Lib.run_convert_string_bytes (P := Try.prog) W 9 156 5 s Try.underlying9 Try.underlying156 Try.underlying5
  clear hb
  go_enter Try.func40, Try.ntmps40
  go_wp2_with (go_at_call 39; refine (nameWords _).mono ?_; rintro e w' ⟨rfl, hb⟩; obtain ⟨x, rfl⟩ := bx_of hb; clear hb)
  obtain ⟨w1, hr1, hI1, hC1⟩ := run_clear_ints (P := Try.prog) x.w 31 0 26 .u64 26 Try.underlying31 (zero_u64 _) g off 3 c xs (HB.out.below (bl_bx (bl_alloc (Below.refl _ _) _) x) hgl) (by omega) ho
  rw [hr1]
  have hlen1 : (splice xs off (List.replicate 3 (0 : Int))).length = xs.length := length_splice _ _ _ (by simpa using ho)
  obtain ⟨v0, hc0⟩ : ∃ v0, w1.cell? ⟨g, off, none⟩ = some (.int .u64 v0) := ⟨_, hI1.cell (i := off) (by rw [hlen1]; omega)⟩
  have hf0 := hI1.frozen off
  have hg1 := hI1.lt
  have hI2 := hI1.set off (s.size : Int)
  have HI2 := Lib.hid hI2
  have hCC : Ch (At g) w w1 := (Ch.of_below (bl_bx (bl_alloc (Below.refl _ _) _) x)).trans hC1 (fun _ h _ => h)
  have HCC := Lib.hid (hCC.set1 off (.int .u64 (s.size : Int)))
  have HLn := Lib.hid hlen1
  clear hr1 hI1 hC1 hlen1 hI2 hCC
  have hne : ¬ c = 1 := by omega
  go_wp2
  generalize hW : w1.setCell ⟨g, off, none⟩ (.int .u64 (s.size : Int)) = w2 at *
  clear hW
  go_region_law (first
    | (go_simp; go_at_call 69; refine (pack_s _ s hs _).mono ?_; rintro e w5 ⟨rfl, HI5, HB5⟩)
    | (refine step_copy_ints rfl (.tmp 24) (.tmp 27) 31 31 rfl 26 Try.underlying31 size_u64 .u64 26 (some ⟨g, off + 1, none⟩) (some ⟨w2.heap.size + 1, 0, none⟩) 2 (c - 1) ((s.size + 7) / 8) ((s.size + 7) / 8) (by go_simp) (by go_simp) g (off + 1) _ (pks (bytesOf s) s.size) ((show IB .u64 26 w2.drew g _ from HI2.out).ch (Ch.of_below (S := fun _ => False) HB5.out) (fun h => h)) (by rw [length_pks]; exact (Nat.min_eq_left (by omega)).symm) (fun _ => rfl) (by rw [length_pks, List.length_set, HLn.out]; omega) HI5.out.rd0 ?_; intro w6 HI6 hC6))
  go_wp2
  go_ret
  have h6 := HI6.out
  exact ⟨rfl, by rw [← length_bytesOf s, splice_name xs (bytesOf s) off (by rw [length_bytesOf]; exact hs) ho] at h6; exact h6, ((HCC.out.drew).trans (Ch.of_below (S := At g) HB5.out) (fun _ h _ => h)).trans hC6 (fun _ h _ => h)⟩
end Go.Proofs.Ytlbgmoijepknbaa
