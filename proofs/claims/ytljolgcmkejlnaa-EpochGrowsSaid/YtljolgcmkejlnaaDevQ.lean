/- Contract of apply of a device. -/
import Derived.Test.YtljolgcmkejlnaaDevP
namespace Go.Proofs.Ytljolgcmkejlnaa
open Go.RowKit
set_option linter.unusedVariables false

/-- The words after stores. -/
def applyW (xs : List Int) (ws : List (Int × Int)) : List Int := ws.foldl (fun xs p => xs.set (p.1 / 8).toNat p.2) xs
theorem length_applyW (ws : List (Int × Int)) : ∀ xs, (applyW xs ws).length = xs.length := by
  induction ws with
  | nil => intro xs; rfl
  | cons p ws ih => intro xs; rw [applyW, List.foldl_cons]; exact (ih _).trans (by simp)
theorem applyW_snoc (xs : List Int) (ws : List (Int × Int)) (p : Int × Int) : applyW xs (ws ++ [p]) = (applyW xs ws).set (p.1 / 8).toNat p.2 := by simp [applyW]
theorem uints_set (xs : List Int) (j : Nat) (v : Int) : uints (xs.set j v) = (uints xs).set j (.int .u64 v) := by simp [uints]
theorem wcells_get (ws : List (Int × Int)) : ∀ (k : Nat) (h : k < ws.length), (wcells ws)[2 * k]? = some (.int .u64 ws[k].1) ∧ (wcells ws)[2 * k + 1]? = some (.int .u64 ws[k].2) := by
  induction ws with
  | nil => intro k h; simp at h
  | cons p ws ih =>
    intro k h
    cases k with
    | zero => simp [wcells]
    | succ k =>
      have := ih k (by simpa using h)
      have e : wcells (p :: ws) = .int .u64 p.1 :: .int .u64 p.2 :: wcells ws := by simp [wcells]
      rw [e, show 2 * (k + 1) = 2 * k + 1 + 1 by omega, show 2 * k + 1 + 1 + 1 = 2 * k + 1 + 1 + 1 from rfl]
      simpa using this
theorem Sl.unfrozen {e : TypeId} {size : Nat} {w : World} {g off n c : Nat} {xs : List Value} (h : Sl e size w (some ⟨g, off, none⟩) n c xs) (j : Nat) : w.frozen? ⟨g, j, none⟩ = false := by
  rcases h.2 with ⟨hA, _⟩ | ⟨g', off', cur, hA, hC, _⟩
  · cases hA
  · injection hA with hA
    injection hA with hA hA'
    subst hA
    exact hC.frozen j
/-- One store in the store's slice. -/
theorem Sl.wr {w : World} {A : Option Addr} {m c : Nat} {ws : List (Int × Int)} (h : Sl 90 2 w A m c (wcells ws)) {k : Nat} (hk : k < ws.length) :
    ∃ g off, A = some ⟨g, off, none⟩ ∧ g < w.heap.size ∧ w.cell? ⟨g, off + 2 * k, none⟩ = some (.int .u64 ws[k].1) ∧ w.cell? ⟨g, off + 2 * k + 1, none⟩ = some (.int .u64 ws[k].2) := by
  obtain ⟨e1, e2⟩ := wcells_get ws k hk
  obtain ⟨g, off, hA, hl, _⟩ := h.at_ (j := 2 * k) (by rw [length_wcells]; omega)
  have c1 := h.cells _ hA _ _ e1
  have c2 := h.cells _ hA _ _ e2
  have h1 : ∀ j, (⟨g, off, none⟩ : Addr).add j = ⟨g, off + j, none⟩ := by intro j; unfold Addr.add; split <;> simp_all
  rw [h1] at c1 c2
  exact ⟨g, off, hA, hl, c1, c2⟩

set_option maxRecDepth 100000 in
set_option maxHeartbeats 2000000 in
theorem devApply (w : World) (g n c m c' : Nat) (xs : List Int) (A : Option Addr) (ws : List (Int × Int)) (hX : Sl 25 1 w (some ⟨g, 0, none⟩) n c (uints xs)) (hn : xs.length = n)
    (hW : Sl 90 2 w A m c' (wcells ws)) (hm : ws.length = m) (hA : ¬ OwnB A g) (hws : ∀ p ∈ ws, 0 ≤ p.1 ∧ p.1 / 8 < (n : Int)) (hmb : m ≤ 9223372036854775807) (hnb : n ≤ 32768) :
    Calls Try.prog 62 #[.slice (some ⟨g, 0, none⟩) n c, .slice A m c'] w fun e w' => e = .returned (.tuple #[]) ∧ Sl 25 1 w' (some ⟨g, 0, none⟩) n c (uints (applyW xs ws)) ∧ Ch (At g) w w' := by
  have hgl : g < w.heap.size := hX.lt (by simp [OwnB])
  have HX := Lib.hid hX
  have HN := Lib.hid hn
  have HW := Lib.hid hW
  have HM := Lib.hid hm
  have HA := Lib.hid hA
  have HWS := Lib.hid hws
  clear hX hn hW hm hA hws
  go_enter Try.func62, Try.ntmps62
  go_wp2
  go_loopw [8, 5, 9, 10, 11, 12, 13, 14, 15, 16, 17, 18, 19] (fun i _ _ _ _ _ _ _ _ _ _ _ _ wr => ∃ k : Nat, k ≤ m ∧ i = .int .i64 k ∧ Sl 25 1 wr (some ⟨g, 0, none⟩) n c (uints (applyW xs (ws.take k))) ∧ Ch (At g) w wr) (fun i _ _ _ _ _ _ _ _ _ _ _ _ _ => m - (intOf i).toNat)
  case atStart => exact ⟨0, by omega, rfl, by simpa [applyW] using HX.out, Ch.refl _ _⟩
  case round =>
    obtain ⟨k, hk, rfl, hS, hCh⟩ := hrel
    have HS := Lib.hid hS
    have HCh := Lib.hid hCh
    by_cases hlt : k < m
    · have hkl : k < ws.length := by rw [HM.out]; exact hlt
      obtain ⟨g', off, hA', hl, c1, c2⟩ := (HW.out.ch hCh (fun b hb h => HA.out (by have : b = g := h; rw [← this]; exact hb))).wr hkl
      have hgg : g' ≠ g := by
        rintro rfl
        exact HA.out (by rw [hA']; simp [OwnB])
      subst hA'
      obtain ⟨p1, p2⟩ := HWS.out ws[k] (List.getElem_mem hkl)
      obtain ⟨a, ha⟩ : ∃ a, ws[k].1 = a := ⟨_, rfl⟩
      obtain ⟨v, hv⟩ : ∃ v, ws[k].2 = v := ⟨_, rfl⟩
      rw [ha] at c1 p1 p2
      rw [hv] at c2
      obtain ⟨q, hq⟩ : ∃ q : Nat, a / 8 = (q : Int) := ⟨(a / 8).toNat, by omega⟩
      have hqn : q < n := by omega
      have hLn : (uints (applyW xs (ws.take k))).length = n := by rw [length_uints, length_applyW]; exact HN.out
      obtain ⟨g2, o2, hA2, _, c3⟩ := hS.at_ (j := q) (by rw [hLn]; exact hqn)
      injection hA2 with hA2
      injection hA2 with hA2 hA2'
      subst hA2 hA2'
      rw [Nat.zero_add] at c3
      have hgr : g < wr.heap.size := hS.lt (by simp [OwnB])
      have hfz := hS.unfrozen q
      have HAV := Lib.hid (And.intro ha hv)
      rw [show 2 * k = k * 2 by omega] at c1 c2
      clear hS hCh ha hv
      go_wp2
      refine ⟨⟨k + 1, by omega, rfl, ?_, (HCh.out.set1 _ _).alloc _⟩, by simp [intOf]; omega⟩
      have e1 : applyW xs (ws.take (k + 1)) = (applyW xs (ws.take k)).set q v := by
        rw [List.take_succ_eq_append_getElem hkl, applyW_snoc, HAV.out.1, HAV.out.2, hq]
        rfl
      have h2 := HS.out.set (j := q) (by rw [hLn]; exact hqn) (.int .u64 v)
      rw [Nat.zero_add] at h2
      rw [e1, uints_set]
      exact h2.keep fun b hb => Below.heap_alloc _ _ _ (h2.lt hb)
    · obtain rfl : k = m := by omega
      clear hS hCh
      go_wp2
      go_end0
      refine ⟨rfl, ?_, HCh.out⟩
      have := HS.out
      rwa [List.take_of_length_le (by rw [HM.out]; omega)] at this
end Go.Proofs.Ytljolgcmkejlnaa
