/- Contracts of Clone of words, of and New of a device. -/
import Derived.Test.YtlbgmoijepknbaaDevE
import Derived.Test.YtlbgmoijepknbaaRep
import Derived.Deep.RegionHeld3
import Derived.WalkSpells
namespace Go.Proofs.Ytlbgmoijepknbaa
open Go.RowKit
set_option linter.unusedVariables false

theorem rd_uints {w : World} {g off : Nat} {xs : List Int} (h : Rd .u64 w (some ⟨g, off, none⟩) xs) : ∀ (j : Nat) (u : Value), (uints xs)[j]? = some u → w.cell? ((⟨g, off, none⟩ : Addr).add j) = some u := by
  intro j u hu
  have h1 : (⟨g, off, none⟩ : Addr).add j = ⟨g, off + j, none⟩ := by unfold Addr.add; split <;> simp_all
  rw [h1]
  simp only [uints, List.getElem?_map, Option.map_eq_some_iff] at hu
  obtain ⟨y, hy, rfl⟩ := hu
  obtain ⟨hj, rfl⟩ := List.getElem?_eq_some_iff.1 hy
  obtain ⟨b', off', h2, _, h3⟩ := h.at_ hj
  injection h2 with h2
  injection h2 with h2 h2'
  subst h2 h2'
  exact h3
theorem uints_one (xs : List Int) : ∀ u ∈ uints xs, u.oneCell' = true := by
  intro u hu
  obtain ⟨x, _, rfl⟩ := List.mem_map.1 hu
  rfl

set_option maxRecDepth 100000 in
set_option maxHeartbeats 400000 in
theorem cloneU (w : World) (g off n c : Nat) (xs : List Int) (hn : xs.length = n) (h0 : 0 < n) (hb : n ≤ 1000000) (hR : Rd .u64 w (some ⟨g, off, none⟩) xs) :
    Calls Try.prog 81 #[.slice (some ⟨g, off, none⟩) n c] w fun e w' => ∃ g' c', e = .returned (.slice (some ⟨g', 0, none⟩) n c') ∧ Sl 26 1 w' (some ⟨g', 0, none⟩) n c' (uints xs) ∧ w.heap.size ≤ g' ∧ Below w.heap.size w w' := by
  have HR := Lib.hid (hR.alloc (.cells #[] 26))
  have HN := Lib.hid hn
  have HS : Hid (Sl 26 1 (w.alloc (.cells #[] 26)) (some ⟨w.heap.size, 0, none⟩) 0 0 []) := ⟨by simp, .inr ⟨w.heap.size, 0, #[], rfl, CB.new w _ _, by omega, by unfold maxLen; omega, by simp, by simp⟩⟩
  have hsn := fun (W : World) => Lib.run_eql_slice_nil (P := Try.prog) W 31 26 (some ⟨g, off, none⟩) n c 0 0 Try.underlying31
  clear hR hn
  go_enter Try.func81, Try.ntmps81
  go_wp2_with (at_builtin; refine wpList_append_sl rfl (.tmp 5) (.tmp 6) 31 rfl 26 (.int .u64 0) 1 8 rfl (by omega) Try.underlying31 info_u64 (by omega) (some ⟨w.heap.size, 0, none⟩) 0 0 [] ⟨g, off, none⟩ n c (uints xs) rfl rfl HS.out (by rw [length_uints, HN.out]; omega) h0 (rd_uints HR.out) (uints_one xs) (by omega) ?_; intro A2 c2 w2 HO HC HW HG)
  go_ret
  have h1 := HO.out
  simp only [List.nil_append, Nat.zero_add] at h1
  obtain rfl := HG.out (by omega)
  refine ⟨_, c2, rfl, h1, by simp, bl_ch (bl_alloc (Below.refl _ _) _) HC.out (fun b hb => by simp [OwnB] at hb; omega)⟩
end Go.Proofs.Ytlbgmoijepknbaa
