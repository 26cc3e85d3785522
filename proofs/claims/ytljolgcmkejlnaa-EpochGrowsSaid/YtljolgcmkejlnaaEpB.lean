/- Contracts of begin, Format and Open of an epoch clock. -/
import Derived.Test.YtljolgcmkejlnaaEpA
import Derived.Test.YtljolgcmkejlnaaPure
import Derived.Test.YtljolgcmkejlnaaPerm
namespace Go.Proofs.Ytljolgcmkejlnaa
open Go.RowKit
set_option linter.unusedVariables false

section
variable {F : Nat → Prop} {d : Nat} {t : Nat → Nat} {c : Nat} {w w0 : World} {S : DevS} {n q : Nat} {xs : List Int} {e : Int} {an : Nat → Int} {N : Nat}
/-- Run of a program of Stores. -/
theorem runV (h : DV F d t w0 S) (hcl : Clean S n xs N) (hb : Below w0.heap.size w0 w) (A : Option Addr) (m cp : Nat) (ws : List (Int × Int)) (hm : (storesP ws).length = m) (hS : Sl 110 3 w A m cp (pcells (storesP ws))) (hA : ∀ b, OwnB A b → w0.heap.size ≤ b) (i : Nat) (hi : i < 8)
    (hv : ∀ p ∈ ws, ∃ k : Nat, p.1 = 8 * (k : Int) ∧ k < 8 * n) (hn : n ≤ 4096) (hN : N + m < 1000000) :
    Calls Try.prog 45 #[.slice A m cp, .iface 61 (.pointer (some ⟨t i, 0, none⟩))] w fun r w' => r = .returned (.int .i64 0) ∧ (∃ S', DV F d t w' S' ∧ Clean S' n (applyW xs ws) (N + m)) ∧ Ch F w0 w' := by
  subst hm
  have h2 := h.less hb (fun b => OwnB A b) (fun b hb' => ⟨hA b hb', hS.lt hb'⟩)
  have hc2 := hcl.stores hi ws hv hN
  refine (memRun w h2 i hi hcl.good A _ cp (storesP ws) rfl hS (fun b hb hf => hf.2 hb) hN (fun p hp => ?_)).mono ?_
  · unfold storesP at hp
    simp only [List.mem_append, List.mem_singleton] at hp
    rcases hp with (hp | hp) | hp
    · obtain ⟨p', hp', rfl⟩ := List.mem_map.1 hp
      obtain ⟨k, hk1, hk2⟩ := hv p' hp'
      exact ⟨rfl, by show 0 ≤ p'.1; omega, by show p'.1 < _; omega⟩
    · obtain ⟨l, hl, rfl⟩ := List.mem_map.1 hp
      rw [mem_cpt'] at hl
      obtain ⟨p', hp', rfl⟩ := List.mem_map.1 hl
      obtain ⟨k, hk1, hk2⟩ := hv p' hp'
      exact ⟨rfl, by show 0 ≤ startOf p'.1; unfold startOf; omega, by show startOf p'.1 < _; unfold startOf; omega⟩
    · subst hp
      exact ⟨rfl, Int.le_refl _, by show (0 : Int) < _; omega⟩
  · rintro r w' ⟨rfl, hD, hC⟩
    refine ⟨by rw [hc2.err i], ⟨_, hD.mono (fun b hb => hb.1), hc2⟩, ?_⟩
    exact (Ch.of_below hb).trans hC (fun b hb _ => hb.1)

theorem applyW_one (xs : List Int) (q : Nat) (v : Int) : applyW xs [(64 * (q : Int), v)] = xs.set (8 * q) v := by
  simp only [applyW, List.foldl_cons, List.foldl_nil]
  congr 1
  omega
theorem storesP_one (q : Nat) (v : Int) : (storesP [(64 * (q : Int), v)]).length = 3 := by
  simp [storesP, insSt, insFl, starts, cpt]
theorem one_write (w : World) (a b : Int) : Sl 90 2 (w.alloc (.cells #[.int .u64 a, .int .u64 b] 90)) (some ⟨w.heap.size, 0, none⟩) 1 1 (wcells [(a, b)]) :=
  ⟨rfl, .inr ⟨w.heap.size, 0, _, rfl, CB.new w _ _, by omega, by unfold maxLen; omega, by simp, rfl⟩⟩
theorem packE_range {ep : Int} (h : 1 ≤ ep ∧ ep ≤ 2147483647) : 0 ≤ packE ep ∧ packE ep < 18446744073709551616 := by unfold packE; omega
set_option maxRecDepth 100000 in
set_option maxHeartbeats 2000000 in
theorem ckBegin (h : DV F d t w S) (hcl : Clean S n xs N) (hck : Clk w c d (64 * (q : Int)) e an) (hnf : ¬ F c) (hn : n ≤ 4096) (hq : q < n) (i : Nat) (hi : i < 8) (ep : Int) (hep : 1 ≤ ep ∧ ep ≤ 2147483647) (hN : N + 3 < 1000000) :
    Calls Try.prog 39 #[.pointer (some ⟨c, 0, none⟩), .pointer (some ⟨t i, 0, none⟩), .int .u64 ep] w fun r w' => r = .returned (.int .i64 0) ∧ (∃ S', DV F d t w' S' ∧ Clean S' n (xs.set (8 * q) (packE ep)) (N + 3)) ∧ Clk w' c d (64 * (q : Int)) ep an ∧ Ch (fun b => F b ∨ b = c) w w' := by
  have H := Lib.hid h
  have HCL := Lib.hid hcl
  have HCK := Lib.hid hck
  have HNF := Lib.hid hnf
  have c1 := hck.c1
  have hl := hck.lt
  clear h hcl hck hnf
  go_enter Try.func39, Try.ntmps39
  go_upto_region 1 with (fail)
  go_cut [7] from 8 (fun s wx => s = .int .i64 0 ∧ (∃ S', DV F d t wx S' ∧ Clean S' n (xs.set (8 * q) (packE ep)) (N + 3)) ∧ Ch F w wx)
  case first =>
    refine ord_reads [] [.p [0, 1, 2, 4, 9, 10], .q [3, 5, 6], .h [7, 8, 11, 12]] (by kernel_rfl) (fun _ _ d _ _ h => by cases d <;> exact h) (by kernel_rfl) ?_
    dsimp only [pick, List.filterMap, List.getElem?_cons_zero, List.getElem?_cons_succ]
    refine wpQuiet_nil ?_
    rintro _ ⟨nq, rfl⟩
    obtain ⟨W, hW⟩ : ∃ W, w.drewN nq = W := ⟨_, rfl⟩
    have c1' : W.cell? ⟨c, 1, none⟩ = some (.int .u64 (64 * (q : Int))) := by rw [← hW]; exact c1
    have hl' : c < W.heap.size := by rw [← hW]; exact hl
    have HB0 : Hid (Below w.heap.size w W) := by show Below _ _ _; rw [← hW]; exact bl_drewN (Below.refl _ _) nq
    rw [hW]
    clear hW
    with_reducible refine part_pure ?_
    dsimp only [pick, List.filterMap, List.getElem?_cons_zero, List.getElem?_cons_succ]
    (repeat (first | (refine pure_ex rfl ?_; apply Exists.intro; apply And.intro; (intro w; go_simp; rfl); simp only [Act.put, List.setIfInBounds_toArray, List.set_cons_succ, List.set_cons_zero]) | (refine pure_skip rfl ?_; simp only [Act.put, List.setIfInBounds_toArray, List.set_cons_succ, List.set_cons_zero]))); refine pure_nil ?_
    with_reducible refine part_reads ?_
    dsimp only [pick, List.filterMap, List.getElem?_cons_zero, List.getElem?_cons_succ]
    (repeat (go_big_quiet_step ((go_at_call 43; exact q_same (ckPack _ ep (by omega))))))
    refine wpQuiet_nil ?_
    rintro _ ⟨nq2, rfl⟩
    with_reducible refine part_hard ?_
    dsimp only [pick, List.filterMap, List.getElem?_cons_zero, List.getElem?_cons_succ]
    go_wp2_with (first | (go_at_call 44; refine (memStores _ (some ⟨W.heap.size, 0, none⟩) 1 1 [(64 * (q : Int), packE ep)] rfl (by omega) (by omega) (one_write (W.drewN nq2) _ _) (fun p hp => by simp only [List.mem_singleton] at hp; subst hp; exact ⟨by show 0 ≤ 64 * (q : Int); omega, by show 64 * (q : Int) < _; omega⟩) (by simp [starts])).mono ?_; rintro r w2 ⟨A2, cp2, rfl, hS2, hB2, hO2⟩; rw [storesP_one] at hS2 ⊢; have HS2 := Lib.hid hS2; have HB2 : Hid (Below w.heap.size w w2) := (bl_alloc (bl_drewN HB0.out nq2) _).trans (hB2.mono (by have := HB0.out.size; simpa using Nat.le_succ_of_le this)); have HO2 := Lib.hid hO2; clear hS2 hB2 hO2) | (go_at_call 45; refine (runV H.out HCL.out HB2.out A2 3 cp2 [(64 * (q : Int), packE ep)] (storesP_one _ _) HS2.out (fun b hb => by have := HO2.out b hb; have h3 := HB0.out.size; simp at this; omega) i hi (fun p hp => by simp only [List.mem_singleton] at hp; subst hp; exact ⟨8 * q, by show 64 * (q : Int) = _; omega, by omega⟩) hn hN).mono ?_; rintro r w3 ⟨rfl, ⟨S3, hD3, hC3⟩, hCh3⟩; rw [applyW_one] at hC3; have HD3 := Lib.hid hD3; have HC3 := Lib.hid hC3; have HCh3 := Lib.hid hCh3; clear hD3 hC3 hCh3))
    with_reducible refine segs_end ?_
    with_reducible refine part_nil ?_
    go_wp2
    go_meet
    case rel => exact ⟨rfl, ⟨S3, HD3.out, HC3.out⟩, HCh3.out⟩
  case rest =>
    obtain ⟨rfl, ⟨S3, hD3, hC3⟩, hCh3⟩ := hcut
    have hK := HCK.out.ch hCh3 HNF.out
    have k2 := hK.c2
    have kf := CB.frozen hK 2
    have kl := hK.lt
    have HK := Lib.hid hK
    have HD3 := Lib.hid hD3
    have HC3 := Lib.hid hC3
    have HCh3 := Lib.hid hCh3
    clear hK hD3 hC3 hCh3
    go_wp2
    go_ret
    refine ⟨rfl, ⟨S3, HD3.out.ch (T := At c) ((Ch.refl _ _).set1 2 _) (fun b _ hb h => HNF.out (by rw [← show b = c from h]; exact hb)), HC3.out⟩, ?_, ?_⟩
    · exact CB.set HK.out 2 (.int .u64 ep)
    · exact (HCh3.out.mono (fun b hb _ => .inl hb)).setCell (a := ⟨c, 2, none⟩) (.inl (.inr rfl)) _
end
end Go.Proofs.Ytljolgcmkejlnaa
