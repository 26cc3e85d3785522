/- Contracts of the reference's Name and Unname. -/
import Derived.Test.YtlbgmoijepknbaaNameE
import Derived.Test.YtlbgmoijepknbaaName
import Derived.Test.YtlbgmoijepknbaaApp
import Derived.Test.YtlbgmoijepknbaaTail
namespace Go.Proofs.Ytlbgmoijepknbaa
open Go.RowKit
set_option linter.unusedVariables false

/-- Word j of the bytes from number k on. -/
def hw (bs : List Int) (k j : Nat) : Int := leN (((bs.drop (8 * j)).take 8).drop (k - 8 * j))
theorem hw_zero (bs : List Int) (j : Nat) : hw bs 0 j = pkw bs j := by simp [hw, pkw]
theorem hw_top (bs : List Int) (j : Nat) : hw bs bs.length j = 0 := by
  unfold hw
  rw [List.drop_eq_nil_of_le (by simp; omega)]; rfl
theorem hw_step (bs : List Int) (k : Nat) (h : k < bs.length) : hw bs k (k / 8) = bs[k] + 256 * hw bs (k + 1) (k / 8) := by
  unfold hw
  have hl : k - 8 * (k / 8) < ((bs.drop (8 * (k / 8))).take 8).length := by simp; omega
  rw [List.drop_eq_getElem_cons hl, show k + 1 - 8 * (k / 8) = k - 8 * (k / 8) + 1 from by omega]
  simp only [leN]
  congr 1
  simp only [List.getElem_take, List.getElem_drop]
  congr 1
  omega
theorem hw_other (bs : List Int) (k j : Nat) (hj : j ≠ k / 8) : hw bs k j = hw bs (k + 1) j := by
  unfold hw
  rcases Nat.lt_or_ge j (k / 8) with h | h
  · rw [List.drop_eq_nil_of_le (by simp; omega), List.drop_eq_nil_of_le (by simp; omega)]
  · rw [show k - 8 * j = 0 from by omega, show k + 1 - 8 * j = 0 from by omega]
theorem hw_bound (bs : List Int) (k j : Nat) (h : ∀ b ∈ bs, 0 ≤ b ∧ b ≤ 255) : 0 ≤ hw bs k j ∧ hw bs k j < 2 ^ ((8 - (k - 8 * j)) * 8) := by
  have h1 := leN_bound (((bs.drop (8 * j)).take 8).drop (k - 8 * j)) (fun b hb => h b (List.mem_of_mem_drop (List.mem_of_mem_take (List.mem_of_mem_drop hb))))
  refine ⟨h1.1, Int.lt_of_lt_of_le h1.2 ?_⟩
  have h2 : (((bs.drop (8 * j)).take 8).drop (k - 8 * j)).length * 8 ≤ (8 - (k - 8 * j)) * 8 := by
    simp only [List.length_drop, List.length_take]; omega
  have h3 := Nat.pow_le_pow_right (n := 2) (by omega) h2
  exact_mod_cast h3
theorem nameEnc_eq (bs : List Int) (h : bs.length ≤ 16) : nameEnc bs = [(bs.length : Int), pkw bs 0, pkw bs 1] := by
  have h2 : (bs.length + 7) / 8 = 0 ∨ (bs.length + 7) / 8 = 1 ∨ (bs.length + 7) / 8 = 2 := by omega
  unfold nameEnc pks
  rcases h2 with h2 | h2 | h2 <;> rw [h2]
  · have e0 : pkw bs 0 = 0 := pkw_le bs 0 0 (by omega)
    have e1 : pkw bs 1 = 0 := pkw_le bs 0 1 (by omega)
    simp [e0, e1, List.replicate]
  · have e1 : pkw bs 1 = 0 := pkw_le bs 0 1 (by omega)
    simp [e1, List.range, List.range.loop]
  · simp [List.range, List.range.loop]

theorem pow_le_56 (e : Nat) (h : e ≤ 56) : (2 : Int) ^ e ≤ 72057594037927936 := by
  have h3 := Nat.pow_le_pow_right (n := 2) (by omega) h
  have h4 : (2 : Int) ^ e = ((2 ^ e : Nat) : Int) := by simp
  have h5 : 2 ^ 56 = 72057594037927936 := by decide
  rw [h4]; omega
theorem hw_set (s : ByteArray) (m : Nat) (hm : m < s.size) (h16 : s.size ≤ 16) (n H : Int) (hH : hw (bytesOf s) (m + 1) (m / 8) = H) (h0 : 0 ≤ H) (h1 : H < 72057594037927936) :
    [n, hw (bytesOf s) (m + 1) 0, hw (bytesOf s) (m + 1) 1].set (1 + m / 8) (IntKind.u64.wrap (256 * H + IntKind.u64.wrap (s[m].toNat : Int))) = [n, hw (bytesOf s) m 0, hw (bytesOf s) m 1] := by
  have hb : s[m].toNat < 256 := s[m].toNat_lt
  have e1 : IntKind.u64.wrap (s[m].toNat : Int) = (s[m].toNat : Int) := IntWalk.u64_in _ (by omega)
  have e2 : IntKind.u64.wrap (256 * H + (s[m].toNat : Int)) = 256 * H + (s[m].toNat : Int) := IntWalk.u64_in _ (by omega)
  have hlen : m < (bytesOf s).length := by rw [length_bytesOf]; exact hm
  have e3 : (bytesOf s)[m] = (s[m].toNat : Int) := by simp [bytesOf]; rfl
  have e4 := hw_step (bytesOf s) m hlen
  rw [e3, hH] at e4
  rw [e1, e2, Int.add_comm, ← e4]
  rcases Nat.lt_or_ge m 8 with h | h
  · have hj : m / 8 = 0 := by omega
    rw [hj, hw_other (bytesOf s) m 1 (by omega)]; rfl
  · have hj : m / 8 = 1 := by omega
    rw [hj, hw_other (bytesOf s) m 0 (by omega)]; rfl

set_option maxHeartbeats 400000 in
theorem refName_long (w : World) (s : ByteArray) (hs : 16 < s.size) :
    Calls Try.prog 38 #[.string s] w fun e w' => e = .returned (.tuple #[.slice none 0 0, .bool false]) ∧ Below w.heap.size w w' := by
  have hs' : (16 : Int) < (s.size : Int) := by omega
  go_enter Try.func38, Try.ntmps38
  go_wp2
  go_ret2
  exact ⟨rfl, (by repeat (first | with_reducible exact Below.refl _ _ | with_reducible refine bl_alloc ?_ _ | with_reducible refine bl_drew ?_ | with_reducible refine bl_drewN ?_ _ | with_reducible refine bl_bx ?_ _ | with_reducible exact BX.below _ | with_reducible refine bl_set ?_ (by first | (exact Nat.le_refl _) | (simp; done) | (simp; omega)) _ | assumption))⟩

set_option maxRecDepth 100000 in
set_option maxHeartbeats 1000000 in
theorem refName_ok (w : World) (s : ByteArray) (hs : s.size ≤ 16) :
    Calls Try.prog 38 #[.string s] w fun e w' => e = .returned (.tuple #[.slice (some ⟨w.heap.size, 0, none⟩) 3 3, .bool true]) ∧ IB .u64 26 w' w.heap.size (nameEnc (bytesOf s)) ∧ Below w.heap.size w w' := by
  have hs' : ¬ (16 : Int) < (s.size : Int) := by omega
  have HBo := Lib.hid (bytesOf_bound s)
  go_enter Try.func38, Try.ntmps38
  go_wp2
  go_loopw [5, 16, 17, 18, 19, 20, 21, 22, 23, 24, 25, 26, 27, 28, 29, 30, 31, 32, 33, 34, 35, 36] (fun i _ _ _ _ _ _ _ _ _ _ _ _ _ _ _ _ _ _ _ _ _ wr => ∃ k : Nat, k ≤ s.size ∧ (∃ z : Int, i = .int .i64 z ∧ z + 1 = (k : Int)) ∧ IB .u64 26 wr w.heap.size [(s.size : Int), hw (bytesOf s) k 0, hw (bytesOf s) k 1] ∧ Below w.heap.size w wr) (fun i _ _ _ _ _ _ _ _ _ _ _ _ _ _ _ _ _ _ _ _ _ _ => (intOf i + 1).toNat)
  case atStart =>
    refine ⟨s.size, Nat.le_refl _, ⟨_, rfl, by omega⟩, ?_, bl_alloc (Below.refl _ _) _⟩
    have h1 := hw_top (bytesOf s) 0
    have h2 := hw_top (bytesOf s) 1
    rw [length_bytesOf] at h1 h2
    rw [h1, h2]
    exact IB.new_at .u64 26 w w.heap.size [(s.size : Int), 0, 0] rfl
  case round =>
    obtain ⟨k, hk, ⟨z, rfl, hz⟩, hI, hB⟩ := hrel
    have HI := Lib.hid hI
    have HB := Lib.hid hB
    by_cases hlt : 0 < k
    · obtain ⟨m, rfl⟩ : ∃ m, k = m + 1 := ⟨k - 1, by omega⟩
      obtain rfl : z = (m : Int) := by omega
      have hm : m < s.size := by omega
      have hcell : wr.cell? ⟨w.heap.size, 1 + m / 8, none⟩ = some (.int .u64 (hw (bytesOf s) (m + 1) (m / 8))) := by
        rcases Nat.lt_or_ge m 8 with h | h
        · rw [show m / 8 = 0 from by omega]; exact hI.cell (i := 1) (by simp)
        · rw [show m / 8 = 1 from by omega]; exact hI.cell (i := 2) (by simp)
      have hfr := hI.frozen (1 + m / 8)
      obtain ⟨hb0, hb1⟩ := hw_bound (bytesOf s) (m + 1) (m / 8) HBo.out
      have hb2 : hw (bytesOf s) (m + 1) (m / 8) < 72057594037927936 := by
        refine Int.lt_of_lt_of_le hb1 ?_
        exact pow_le_56 _ (by omega)
      generalize hH : hw (bytesOf s) (m + 1) (m / 8) = H at *
      have HH := Lib.hid hH
      clear hI hB hz hH hb1
      go_wp2
      refine wp_region_still_n 16 (by kernel_rfl) (by kernel_rfl) ?_
      simp only [List.take_succ_cons, List.take_zero, List.drop_succ_cons, List.drop_zero]
      repeat (go_big_quiet_step (fail))
      refine wpQuiet_nil ?_
      rintro _ ⟨nq, rfl⟩
      go_wp2
      have h6 := (HI.out.drewN nq).set (1 + m / 8) (IntKind.u64.wrap (256 * H + IntKind.u64.wrap (s[m].toNat : Int)))
      rw [hw_set s m hm hs _ H HH.out hb0 hb2] at h6
      have h7 := bl_set (bl_drewN HB.out nq) (p := ⟨w.heap.size, 1 + m / 8, none⟩) (Nat.le_refl _) (.int .u64 (IntKind.u64.wrap (256 * H + IntKind.u64.wrap (s[m].toNat : Int))))
      go_roundw
      case rel => exact ⟨m, by omega, ⟨_, rfl, by omega⟩, h6, h7⟩
      case measure => simp [intOf]
    · obtain rfl : k = 0 := by omega
      obtain rfl : z = -1 := by omega
      clear hz
      go_wp2
      go_ret2
      have h6 := HI.out
      rw [hw_zero, hw_zero] at h6
      exact ⟨rfl, by rw [nameEnc_eq _ (by rw [length_bytesOf]; exact hs), length_bytesOf]; exact h6, HB.out⟩
end Go.Proofs.Ytlbgmoijepknbaa
