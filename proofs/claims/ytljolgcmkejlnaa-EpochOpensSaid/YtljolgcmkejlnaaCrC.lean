/- Contract of Dirty: the lines of a device that have stores that are not persistent. -/
import Derived.Test.YtljolgcmkejlnaaCrB
import Derived.Test.YtljolgcmkejlnaaMemA
namespace Go.Proofs.Ytljolgcmkejlnaa
open Go.RowKit
set_option linter.unusedVariables false

theorem info_int : (Try.prog.info? 3).map (fun i => (i.zero, i.size, i.bytes)) = some (some (.int .i64 0), 1, 8) := by kernel_rfl
theorem cellsI_one (w : World) (e : TypeId) (a : Value) : ∀ (j : Nat) (u : Value), [a][j]? = some u → (w.alloc (.cells #[a] e)).cell? ((⟨w.heap.size, 0, none⟩ : Addr).add j) = some u := by
  intro j u hu
  have h1 : (⟨w.heap.size, 0, none⟩ : Addr).add j = ⟨w.heap.size, 0 + j, none⟩ := by unfold Addr.add; split <;> simp_all
  rw [h1, Nat.zero_add, (CB.new w e #[a]).cell]
  simpa using hu
theorem i64_one (a : Int) : ∀ u ∈ ([.int .i64 a] : List Value), u.oneCell' = true := by
  intro u hu
  simp only [List.mem_singleton] at hu
  subst hu; rfl
/-- The number of stores of a line that are not persistent. -/
def hlen (S : DevS) (q : Nat) : Nat := (S.lns[q]?.map (·.hist.length)).getD 0
def dirtyL (S : DevS) (k : Nat) : List Nat := (List.range k).filter fun q => decide (0 < hlen S q)
theorem dirtyL_step (S : DevS) (k : Nat) : dirtyL S (k + 1) = dirtyL S k ++ (if 0 < hlen S k then [k] else []) := by
  unfold dirtyL
  rw [List.range_succ, List.filter_append]
  by_cases h : 0 < hlen S k
  · simp [h]
  · simp [h]
theorem dirtyL_le (S : DevS) : ∀ k, (dirtyL S k).length ≤ k := by
  intro k
  exact Nat.le_trans (List.length_filter_le _ _) (by simp)
def nints (xs : List Nat) : List Value := xs.map fun (q : Nat) => Value.int .i64 (q : Int)
theorem length_nints (xs : List Nat) : (nints xs).length = xs.length := by simp [nints]
/-- What Dirty leaves. -/
def DirtyPost (w : World) (S : DevS) (e : Ending) (w' : World) : Prop :=
  ∃ A c, e = .returned (.slice A (dirtyL S S.lns.length).length c) ∧ Sl 3 1 w' A (dirtyL S S.lns.length).length c (nints (dirtyL S S.lns.length)) ∧ (∀ b, OwnB A b → w.heap.size ≤ b) ∧ Below w.heap.size w w'
set_option maxRecDepth 100000 in
set_option maxHeartbeats 2000000 in
theorem devDirty (w : World) (d : Nat) (L : Lay) (S : DevS) (h : Dev w d L S) :
    Calls Try.prog 61 #[.pointer (some ⟨d, 0, none⟩)] w (DirtyPost w S) := by
  have l2 := h.lcell
  have dl := h.lt
  obtain ⟨cs, hcb, hsz, hcs⟩ := h.lin
  obtain ⟨n, hn⟩ : ∃ n, S.lns.length = n := ⟨_, rfl⟩
  have hn2 : n ≤ 4096 := by rw [← hn]; exact h.nl.2
  have HCL : Hid (∀ q, q < n → w.cell? ⟨L.lb, q * 2 + 1, none⟩ = some (.slice (L.ha q) (hlen S q) (L.hc q))) := by
    intro q hq
    have hq' : q < S.lns.length := by omega
    rw [hcb.cell, show q * 2 + 1 = 2 * q + 1 by omega, (hcs q hq').2]
    unfold hlen
    rw [List.getElem?_eq_getElem hq']; rfl
  have lbl := hcb.lt
  rw [hn] at l2
  unfold DirtyPost
  rw [hn]
  clear h hcb hsz hcs
  go_enter Try.func61, Try.ntmps61
  go_wp2
  go_loopw [12, 3, 4, 13, 14, 15, 16, 17, 18, 19, 20, 21, 22, 23, 24, 25, 26, 27, 28, 29] (fun i s _ _ _ _ _ _ _ _ _ _ _ _ _ _ _ _ _ _ wr => ∃ (k : Nat) (A : Option Addr) (c : Nat), k ≤ n ∧ i = .int .i64 k ∧ s = .slice A (dirtyL S k).length c ∧ Sl 3 1 wr A (dirtyL S k).length c (nints (dirtyL S k)) ∧ (∀ b, OwnB A b → w.heap.size ≤ b) ∧ Below w.heap.size w wr) (fun i _ _ _ _ _ _ _ _ _ _ _ _ _ _ _ _ _ _ _ _ => n - (intOf i).toNat)
  case atStart => exact ⟨0, none, 0, by omega, rfl, rfl, Sl.nil, fun b hb => by simp [OwnB] at hb, Below.refl _ _⟩
  case round =>
    obtain ⟨k, A, c, hk, rfl, rfl, hS, hO, hB⟩ := hrel
    have HS := Lib.hid hS
    have HO := Lib.hid hO
    have HB := Lib.hid hB
    have l2' : wr.cell? ⟨d, 2, none⟩ = some (.slice (some ⟨L.lb, 0, none⟩) n n) := (hB.cell (p := ⟨d, 2, none⟩) dl).trans l2
    have hbs := hB.size
    have dl' : d < wr.heap.size := by omega
    have lbl' : L.lb < wr.heap.size := by omega
    clear hS hO hB
    by_cases hlt : k < n
    · have hc1 : wr.cell? ⟨L.lb, k * 2 + 1, none⟩ = some (.slice (L.ha k) (hlen S k) (L.hc k)) := (HB.out.cell (p := ⟨L.lb, k * 2 + 1, none⟩) lbl).trans (HCL.out k hlt)
      have HST := Lib.hid (dirtyL_step S k)
      have hle := dirtyL_le S k
      obtain ⟨dk, hdk⟩ : ∃ dk, dirtyL S k = dk := ⟨_, rfl⟩
      rw [hdk] at HST HS hle
      rw [hdk]
      obtain ⟨hl, hhl⟩ : ∃ hl, hlen S k = hl := ⟨_, rfl⟩
      rw [hhl] at hc1 HST
      clear hdk hhl
      by_cases h0 : 0 < hl
      · rw [if_pos h0] at HST
        have h0' : (hl : Int) > 0 := by omega
        go_wp2_with (at_builtin; refine wpList_append_sl rfl (.tmp 25) (.tmp 27) 38 rfl 3 (.int .i64 0) 1 8 rfl (by omega) Try.underlying38 info_int (by omega) A dk.length c (nints dk) ⟨wr.heap.size, 0, none⟩ 1 1 [.int .i64 (k : Int)] rfl rfl (HS.out.keep (fun b hb => Below.heap_alloc _ _ _ (HS.out.lt hb))) rfl (by omega) (cellsI_one wr 3 _) (i64_one _) (by omega) ?_; intro A2 c2 w2 HO2 HC2 HW2 HG2)
        refine ⟨⟨k + 1, A2, c2, by omega, by go_num, by rw [HST.out, List.length_append]; rfl, ?_, ?_, ?_⟩, by simp [intOf]; omega⟩
        · rw [HST.out, List.length_append]
          have := HO2.out
          simpa [nints] using this
        · intro b hb
          rcases HW2.out b hb with h | h
          · exact HO.out b h
          · have := HB.out.size; simp at h; omega
        · exact bl_ch (bl_alloc HB.out _) HC2.out (fun b hb => HO.out b hb)
      · rw [if_neg h0, List.append_nil] at HST
        have h0' : ¬ (hl : Int) > 0 := by omega
        go_wp2
        exact ⟨⟨k + 1, A, c, by omega, by go_num, by rw [HST.out], by rw [HST.out]; exact HS.out, HO.out, HB.out⟩, by simp [intOf]; omega⟩
    · obtain rfl : k = n := by omega
      go_wp2
      go_ret
      exact ⟨A, c, rfl, HS.out, HO.out, HB.out⟩
end Go.Proofs.Ytljolgcmkejlnaa
