/- Steppers, and the law MemSteps. -/
import Derived.Test.YtngkhligjkcbmaaKa
import Derived.Test.YtngkhligjkcbmaaKq
import Derived.Test.YtngkhligjkcbmaaKf
namespace Go.Proofs.Ytngkhligjkcbmaa
open Go.RowKit
set_option linter.unusedVariables false

@[go_sem] theorem m_pStepper_Step (w : World) (v : Value) : (method 303 73 v "Step").run Try.prog w = .ok (38, v) w := by kernel_rfl
/-- A copy of a program. -/
def ClPPost (w : World) (xs : List Value) (n : Nat) (e : Ending) (w' : World) : Prop := ∃ A c, e = .returned (.slice A n c) ∧ Sl 32 3 w' A n c xs ∧ Below w.heap.size w w' ∧ ∀ b, OwnB A b → w.heap.size ≤ b
set_option maxHeartbeats 1000000 in
theorem cloneP_ok (w : World) (A : Option Addr) (n c : Nat) (ps : List Ins) (hn : n ≤ 1000000) (hS : Sl 32 3 w A n c (pcells ps)) : Calls Try.prog 78 #[.slice A n c] w (ClPPost w (pcells ps) n) := by
  cases A with
  | none =>
    obtain ⟨h1, h2⟩ := hS
    have hz : n = 0 ∧ c = 0 := by
      rcases h2 with ⟨_, h, h'⟩ | ⟨_, _, _, h, _⟩
      · exact ⟨h, h'⟩
      · cases h
    obtain ⟨rfl, rfl⟩ := hz
    have hw : pcells ps = [] := List.eq_nil_of_length_eq_zero (by simpa using h1)
    rw [hw]
    have hsn := fun (W : World) => Lib.run_eql_slice_nil (P := Try.prog) W 25 32 none 0 0 0 0 Try.underlying25
    clear h1 h2 hw
    go_enter Try.func78, Try.ntmps78
    go_wp2
    go_ret
    exact ⟨none, 0, rfl, Sl.nil, Below.refl _ _, by simp [OwnB]⟩
  | some a =>
    have hsn := fun (W : World) => Lib.run_eql_slice_nil (P := Try.prog) W 25 32 (some a) n c 0 0 Try.underlying25
    have HS := Lib.hid hS
    have HE0 : Hid (Sl 32 3 (w.alloc (.cells #[] 32)) (some ⟨w.heap.size, 0, none⟩) 0 0 []) := ⟨by simp, .inr ⟨w.heap.size, 0, #[], rfl, CB.new _ _ _, Nat.le_refl _, by omega, by simp, by simp⟩⟩
    clear hS
    go_enter Try.func78, Try.ntmps78
    go_wp2_with (at_builtin; refine wpList_append_sl2 rfl (.tmp 5) (.tmp 6) 25 rfl 32 (.agg #[.int .u8 0, .int .u64 0, .int .u64 0]) 3 24 rfl (by omega) Try.underlying25 info_instr (by omega) (some ⟨w.heap.size, 0, none⟩) 0 0 [] (some a) n c (pcells ps) rfl rfl HE0.out (HS.out.keep (fun b hb => Below.heap_alloc _ _ b (HS.out.lt hb))) (pcells_one _) (by omega) ?_; intro A2 c2 w2 HO HC HW)
    go_ret
    have hO := HO.out
    rw [List.nil_append, Nat.zero_add] at hO
    refine ⟨A2, c2, rfl, hO, bl_ch (bl_alloc (Below.refl _ _) _) HC.out (fun b hb => ?_), fun b hb => ?_⟩
    · have : w.heap.size = b := by simpa [OwnB] using hb
      omega
    · rcases HW.out b hb with h | h
      · have : w.heap.size = b := by simpa [OwnB] using h
        omega
      · rw [h]; simp
set_option maxHeartbeats 1000000 in
theorem stepBad (w : World) (v : Value) (u : TypeId) (A : Option Addr) (n c : Nat) (ps : List Ins) (hn : ps.length = n) (hb : n ≤ 100000) (hS : Sl 32 3 w A n c (pcells ps)) (hbad : ps.all insB = false) :
    Calls Try.prog 34 #[.iface u v, .slice A n c] w fun e w' => ∃ s, e = .returned (.pointer (some ⟨s, 0, none⟩)) ∧ CB w' s 128 #[.nilIface, .slice none 0 0] ∧ Below w.heap.size w w' ∧ w.heap.size ≤ s := by
  have HV := memValid w A n c ps hn (by omega) hS
  rw [hbad] at HV
  have HVV := Lib.hid HV
  clear HV hS hbad hn
  go_enter Try.func34, Try.ntmps34
  go_wp2_with (go_at_call 77; refine HVV.out.mono ?_; rintro e w1 ⟨rfl, hb⟩; have HB := Lib.hid hb; clear hb)
  go_ret
  exact ⟨_, rfl, CB.new _ _ _, bl_alloc HB.out _, HB.out.size⟩
/-- The stepper's own memory: the blocks K are not among it. -/
def Stp (K : Nat → Prop) (s T : Nat) (w : World) (rest : List Ins) : Prop :=
  ∃ A n c, CB w s 128 #[.iface 49 (.pointer (some ⟨T, 0, none⟩)), .slice A n c] ∧ rest.length = n ∧ Sl 32 3 w A n c (pcells rest) ∧ ¬ K s ∧ ∀ b, OwnB A b → ¬ K b ∧ b ≠ s
theorem Stp.ch {K X : Nat → Prop} {s T : Nat} {w w' : World} {rest : List Ins} (h : Stp K s T w rest) (hC : Ch X w w') (hX : ∀ b, b < w.heap.size → X b → K b) : Stp K s T w' rest := by
  obtain ⟨A, n, c, h1, h2, h3, h4, h5⟩ := h
  exact ⟨A, n, c, h1.keep (hC.block s h1.lt (fun hx => h4 (hX s h1.lt hx))), h2, h3.keep (fun b hb => hC.block b (h3.lt hb) (fun hx => (h5 b hb).1 (hX b (h3.lt hb) hx))), h4, h5⟩
theorem Stp.below {K : Nat → Prop} {s T : Nat} {w w' : World} {rest : List Ins} (h : Stp K s T w rest) (hb : Below w.heap.size w w') : Stp K s T w' rest := h.ch (Ch.of_below hb (S := fun _ => False)) (fun _ _ h => h.elim)
theorem Stp.less {K K' : Nat → Prop} {s T : Nat} {w : World} {rest : List Ins} (h : Stp K s T w rest) (hK : ∀ b, K' b → K b) : Stp K' s T w rest := by
  obtain ⟨A, n, c, h1, h2, h3, h4, h5⟩ := h
  exact ⟨A, n, c, h1, h2, h3, fun hk => h4 (hK _ hk), fun b hb => ⟨fun hk => (h5 b hb).1 (hK _ hk), (h5 b hb).2⟩⟩
theorem Stp.drewN {K : Nat → Prop} {s T : Nat} {w : World} {rest : List Ins} (h : Stp K s T w rest) (n : Nat) : Stp K s T (w.drewN n) rest := h.below (bl_drewN (Below.refl _ _) n)
set_option maxHeartbeats 1000000 in
theorem stepT (w : World) (T : Nat) (A : Option Addr) (n c : Nat) (ps : List Ins) (hn : ps.length = n) (hb : n ≤ 100000) (hS : Sl 32 3 w A n c (pcells ps)) (hok : ps.all insB = true) :
    Calls Try.prog 34 #[.iface 49 (.pointer (some ⟨T, 0, none⟩)), .slice A n c] w fun e w' => ∃ s, e = .returned (.pointer (some ⟨s, 0, none⟩)) ∧ Stp (fun b => b < w.heap.size) s T w' ps ∧ Below w.heap.size w w' ∧ w.heap.size ≤ s := by
  have HV := memValid w A n c ps hn (by omega) hS
  rw [hok] at HV
  have HVV := Lib.hid HV
  have HS := Lib.hid hS
  have HN := Lib.hid hn
  clear HV hS hok hn
  go_enter Try.func34, Try.ntmps34
  go_wp2_with (first
    | (go_at_call 77; refine HVV.out.mono ?_; rintro e w1 ⟨rfl, hb⟩; have HB := Lib.hid hb; have HC := Lib.hid (cloneP_ok w1 A n c ps (by omega) (HS.out.keep (fun b hl => hb.block b (HS.out.lt hl)))); clear hb)
    | (go_at_call 78; refine HC.out.mono ?_; rintro e w2 ⟨A2, c2, rfl, hS2, hb, hO⟩; have HS2 := Lib.hid hS2; have HB2 := Lib.hid hb; have HO2 := Lib.hid hO; clear hS2 hb hO))
  go_ret
  have z1 := HB.out.size
  have z2 := HB2.out.size
  refine ⟨_, rfl, ⟨A2, n, c2, CB.new _ _ _, HN.out, HS2.out.keep (fun b hl => Below.heap_alloc _ _ b (HS2.out.lt hl)), by omega, fun b hl => ⟨by have := HO2.out b hl; omega, by have := HS2.out.lt hl; omega⟩⟩, bl_alloc (HB.out.trans (HB2.out.mono z1)) _, by omega⟩
end Go.Proofs.Ytngkhligjkcbmaa

namespace Go.Proofs.Ytngkhligjkcbmaa
open Go.RowKit
set_option linter.unusedVariables false

set_option maxHeartbeats 1000000 in
theorem spStepA {F : Nat → Prop} {d i N : Nat} {t : Nat → Nat} {S : DevS} (w : World) (hD : DV F d t w S) (hi : i < 8) (hG : Good S N) (hN : N < 1000000) (s g off m c : Nat) (hC : CB w s 128 #[.iface 49 (.pointer (some ⟨t i, 0, none⟩)), .slice (some ⟨g, off, none⟩) m 1]) (hm : 0 < m) (hmb : m ≤ 100000) (hc : True) (hs : ¬ F s)
    (op of v : Int) (ho : 0 ≤ of ∧ of < 18446744073709551616) (hop : 1 ≤ op ∧ op ≤ 3) (hg : g < w.heap.size) (c1 : w.cell? ⟨g, off, none⟩ = some (.int .u8 op)) (c2 : w.cell? ⟨g, off + 1, none⟩ = some (.int .u64 of)) (c3 : w.cell? ⟨g, off + 2, none⟩ = some (.int .u64 v)) :
    Calls Try.prog 38 #[.pointer (some ⟨s, 0, none⟩)] w fun e w' => e = .returned (.bool (decide (m - 1 = 0))) ∧ DV F d t w' (S.exec1 i (op, of, v)) ∧ CB w' s 128 #[.iface 49 (.pointer (some ⟨t i, 0, none⟩)), .slice (some ⟨g, off, none⟩) (m - 1) 0] ∧ Ch (fun b => F b ∨ b = s) w w' := by
  have k0 : w.cell? ⟨s, 0, none⟩ = some (.iface 49 (.pointer (some ⟨t i, 0, none⟩))) := hC.cell_some rfl
  have k1 : w.cell? ⟨s, 1, none⟩ = some (.slice (some ⟨g, off, none⟩) m 1) := hC.cell_some rfl
  have f1 := hC.frozen 1
  have kl := hC.lt
  have q1 : (1 : Int) ≤ (m : Int) := by omega
  have q2 : ¬ (m : Int) = 0 := by omega
  have HD := Lib.hid hD
  have HG := Lib.hid hG
  have HC := Lib.hid hC
  have HO := Lib.hid ho
  clear hD hG hC ho
  go_enter Try.func38, Try.ntmps38
  go_upto_region 5 with (fail)
  obtain ⟨V, hV⟩ : ∃ V, (w.setCell ⟨s, 1, none⟩ (.slice (some ⟨g, off, none⟩) (m - 1) 0)).alloc (.cells #[.int .u8 op, .int .u64 of, .int .u64 v] 32) = V := ⟨_, rfl⟩
  obtain ⟨x, hx⟩ : ∃ x, w.heap.size = x := ⟨_, rfl⟩
  have hC1 := HC.out.set 1 (.slice (some ⟨g, off, none⟩) (m - 1) 0)
  have hD1 : DV F d t (w.setCell ⟨s, 1, none⟩ (.slice (some ⟨g, off, none⟩) (m - 1) 0)) S := HD.out.ch ((Ch.refl (At s) w).set1 1 _) (fun b _ hf ha => hs (by rw [← show b = s from ha]; exact hf))
  have hb1 := bl_alloc (Below.refl (w.setCell ⟨s, 1, none⟩ (.slice (some ⟨g, off, none⟩) (m - 1) 0)).heap.size _) (.cells #[.int .u8 op, .int .u64 of, .int .u64 v] 32)
  have hVx : CB V x 32 #[.int .u8 op, .int .u64 of, .int .u64 v] := by rw [← hV, ← hx, show w.heap.size = (w.setCell ⟨s, 1, none⟩ (.slice (some ⟨g, off, none⟩) (m - 1) 0)).heap.size by simp]; exact CB.new _ _ _
  rw [hV] at hb1
  have HC1 := Lib.hid (hC1.below hb1)
  have HD1 := Lib.hid (hD1.below hb1)
  have HCH : Hid (Ch (fun b => F b ∨ b = s) w V) := (((Ch.refl (At s) w).set1 1 _).mono (fun b hb _ => .inr hb)).trans (Ch.of_below hb1 (S := fun _ => False)) (fun b h _ => h.elim)
  have y0 : V.cell? ⟨x, 0, none⟩ = some (.int .u8 op) := hVx.cell_some rfl
  have y1 : V.cell? ⟨x, 1, none⟩ = some (.int .u64 of) := hVx.cell_some rfl
  have y2 : V.cell? ⟨x, 2, none⟩ = some (.int .u64 v) := hVx.cell_some rfl
  have yl := hVx.lt
  have z0 : V.cell? ⟨s, 0, none⟩ = some (.iface 49 (.pointer (some ⟨t i, 0, none⟩))) := (hC1.below hb1).cell_some rfl
  have zl := (hC1.below hb1).lt
  rw [hV, hx]
  clear hV hx hC1 hD1 hb1 hVx k0 k1 f1 kl c1 c2 c3 HD HC
  refine wp_region_still_n 5 (by kernel_rfl) (by kernel_rfl) ?_
  simp only [List.take_succ_cons, List.take_zero, List.drop_succ_cons, List.drop_zero]
  repeat (go_big_quiet_step (fail))
  refine wpQuiet_nil ?_
  rintro _ ⟨nq, rfl⟩
  have HEX := Lib.hid (memExec (V.drewN nq) (HD1.out.drewN nq) i hi HG.out (by omega) op of v HO.out hop)
  have hlt := HC1.out.lt
  go_wp2_with (go_at_call 79; refine HEX.out.mono ?_; rintro e w2 ⟨rfl, hD, hC⟩; have HD2 := Lib.hid hD; have K2 := (HC1.out.drewN nq).ch hC hs; have HC2 := Lib.hid K2; have HCH2 : Hid (Ch (fun b => F b ∨ b = s) w w2) := (HCH.out.trans (Ch.of_below (bl_drewN (Below.refl _ _) nq) (S := fun _ => False)) (fun b h _ => h.elim)).trans hC (fun b h _ => .inl h); have u1 : w2.cell? ⟨s, 1, none⟩ = some (.slice (some ⟨g, off, none⟩) (m - 1) 0) := K2.cell_some rfl; have ul := K2.lt; clear hD hC K2)
  go_ret
  have e1 : (((m - 1 : Nat) : Int) == 0) = decide (m - 1 = 0) := by rw [Bool.eq_iff_iff]; simp
  exact ⟨by rw [← e1]; rfl, HD2.out, HC2.out, HCH2.out⟩
set_option maxHeartbeats 1000000 in
theorem spStepB {F : Nat → Prop} {d i N : Nat} {t : Nat → Nat} {S : DevS} (w : World) (hD : DV F d t w S) (hi : i < 8) (hG : Good S N) (hN : N < 1000000) (s g off m c : Nat) (hC : CB w s 128 #[.iface 49 (.pointer (some ⟨t i, 0, none⟩)), .slice (some ⟨g, off, none⟩) m c]) (hm : 0 < m) (hmb : m ≤ 100000) (hc : ¬ c = 1) (hs : ¬ F s)
    (op of v : Int) (ho : 0 ≤ of ∧ of < 18446744073709551616) (hop : 1 ≤ op ∧ op ≤ 3) (hg : g < w.heap.size) (c1 : w.cell? ⟨g, off, none⟩ = some (.int .u8 op)) (c2 : w.cell? ⟨g, off + 1, none⟩ = some (.int .u64 of)) (c3 : w.cell? ⟨g, off + 2, none⟩ = some (.int .u64 v)) :
    Calls Try.prog 38 #[.pointer (some ⟨s, 0, none⟩)] w fun e w' => e = .returned (.bool (decide (m - 1 = 0))) ∧ DV F d t w' (S.exec1 i (op, of, v)) ∧ CB w' s 128 #[.iface 49 (.pointer (some ⟨t i, 0, none⟩)), .slice (some ⟨g, off + 3, none⟩) (m - 1) (c - 1)] ∧ Ch (fun b => F b ∨ b = s) w w' := by
  have k0 : w.cell? ⟨s, 0, none⟩ = some (.iface 49 (.pointer (some ⟨t i, 0, none⟩))) := hC.cell_some rfl
  have k1 : w.cell? ⟨s, 1, none⟩ = some (.slice (some ⟨g, off, none⟩) m c) := hC.cell_some rfl
  have f1 := hC.frozen 1
  have kl := hC.lt
  have q1 : (1 : Int) ≤ (m : Int) := by omega
  have q2 : ¬ (m : Int) = 0 := by omega
  have HD := Lib.hid hD
  have HG := Lib.hid hG
  have HC := Lib.hid hC
  have HO := Lib.hid ho
  clear hD hG hC ho
  go_enter Try.func38, Try.ntmps38
  go_upto_region 5 with (fail)
  obtain ⟨V, hV⟩ : ∃ V, (w.setCell ⟨s, 1, none⟩ (.slice (some ⟨g, off + 3, none⟩) (m - 1) (c - 1))).alloc (.cells #[.int .u8 op, .int .u64 of, .int .u64 v] 32) = V := ⟨_, rfl⟩
  obtain ⟨x, hx⟩ : ∃ x, w.heap.size = x := ⟨_, rfl⟩
  have hC1 := HC.out.set 1 (.slice (some ⟨g, off + 3, none⟩) (m - 1) (c - 1))
  have hD1 : DV F d t (w.setCell ⟨s, 1, none⟩ (.slice (some ⟨g, off + 3, none⟩) (m - 1) (c - 1))) S := HD.out.ch ((Ch.refl (At s) w).set1 1 _) (fun b _ hf ha => hs (by rw [← show b = s from ha]; exact hf))
  have hb1 := bl_alloc (Below.refl (w.setCell ⟨s, 1, none⟩ (.slice (some ⟨g, off + 3, none⟩) (m - 1) (c - 1))).heap.size _) (.cells #[.int .u8 op, .int .u64 of, .int .u64 v] 32)
  have hVx : CB V x 32 #[.int .u8 op, .int .u64 of, .int .u64 v] := by rw [← hV, ← hx, show w.heap.size = (w.setCell ⟨s, 1, none⟩ (.slice (some ⟨g, off + 3, none⟩) (m - 1) (c - 1))).heap.size by simp]; exact CB.new _ _ _
  rw [hV] at hb1
  have HC1 := Lib.hid (hC1.below hb1)
  have HD1 := Lib.hid (hD1.below hb1)
  have HCH : Hid (Ch (fun b => F b ∨ b = s) w V) := (((Ch.refl (At s) w).set1 1 _).mono (fun b hb _ => .inr hb)).trans (Ch.of_below hb1 (S := fun _ => False)) (fun b h _ => h.elim)
  have y0 : V.cell? ⟨x, 0, none⟩ = some (.int .u8 op) := hVx.cell_some rfl
  have y1 : V.cell? ⟨x, 1, none⟩ = some (.int .u64 of) := hVx.cell_some rfl
  have y2 : V.cell? ⟨x, 2, none⟩ = some (.int .u64 v) := hVx.cell_some rfl
  have yl := hVx.lt
  have z0 : V.cell? ⟨s, 0, none⟩ = some (.iface 49 (.pointer (some ⟨t i, 0, none⟩))) := (hC1.below hb1).cell_some rfl
  have zl := (hC1.below hb1).lt
  rw [hV, hx]
  clear hV hx hC1 hD1 hb1 hVx k0 k1 f1 kl c1 c2 c3 HD HC
  refine wp_region_still_n 5 (by kernel_rfl) (by kernel_rfl) ?_
  simp only [List.take_succ_cons, List.take_zero, List.drop_succ_cons, List.drop_zero]
  repeat (go_big_quiet_step (fail))
  refine wpQuiet_nil ?_
  rintro _ ⟨nq, rfl⟩
  have HEX := Lib.hid (memExec (V.drewN nq) (HD1.out.drewN nq) i hi HG.out (by omega) op of v HO.out hop)
  have hlt := HC1.out.lt
  go_wp2_with (go_at_call 79; refine HEX.out.mono ?_; rintro e w2 ⟨rfl, hD, hC⟩; have HD2 := Lib.hid hD; have K2 := (HC1.out.drewN nq).ch hC hs; have HC2 := Lib.hid K2; have HCH2 : Hid (Ch (fun b => F b ∨ b = s) w w2) := (HCH.out.trans (Ch.of_below (bl_drewN (Below.refl _ _) nq) (S := fun _ => False)) (fun b h _ => h.elim)).trans hC (fun b h _ => .inl h); have u1 : w2.cell? ⟨s, 1, none⟩ = some (.slice (some ⟨g, off + 3, none⟩) (m - 1) (c - 1)) := K2.cell_some rfl; have ul := K2.lt; clear hD hC K2)
  go_ret
  have e1 : (((m - 1 : Nat) : Int) == 0) = decide (m - 1 = 0) := by rw [Bool.eq_iff_iff]; simp
  exact ⟨by rw [← e1]; rfl, HD2.out, HC2.out, HCH2.out⟩
theorem spStepV {F K : Nat → Prop} {d i N s : Nat} {t : Nat → Nat} {S : DevS} (w : World) (hD : DV F d t w S) (hi : i < 8) (hG : Good S N) (hN : N < 1000000) (p : Ins) (rest : List Ins) (h : Stp K s (t i) w (p :: rest)) (hF : ∀ b, b < w.heap.size → F b → K b) (hb : rest.length < 100000)
    (hp : insB p = true ∧ 0 ≤ p.2.1 ∧ p.2.1 < 18446744073709551616) :
    Calls Try.prog 38 #[.pointer (some ⟨s, 0, none⟩)] w fun e w' => e = .returned (.bool (decide (rest.length = 0))) ∧ DV F d t w' (S.exec1 i p) ∧ Stp K s (t i) w' rest ∧ Ch (fun b => F b ∨ b = s) w w' := by
  obtain ⟨A, n, c, h1, h2, h3, h4, h5⟩ := h
  obtain ⟨g, off, rfl, hl, c1, c2, c3⟩ := h3.ins (k := 0) (by simp)
  obtain ⟨op, of, v⟩ := p
  rw [Nat.zero_mul, Nat.add_zero] at c1 c2 c3
  simp only [List.getElem_cons_zero] at c1 c2 c3
  simp only [List.length_cons] at h2
  have hop : 1 ≤ op ∧ op ≤ 3 := by have := hp.1; simpa [insB] using this
  have hgs := h5 g (by simp [OwnB])
  have hnF : ¬ F s := fun hf => h4 (hF s h1.lt hf)
  have hd := h3.drop 1 (by omega) g off rfl
  have hcl : Sl 32 3 w (some ⟨g, off, none⟩) 0 0 [] := by
    rcases h3.2 with ⟨q, _⟩ | ⟨g1, o1, cur, e, q1, q2, q3, q4, q5⟩
    · cases q
    · exact ⟨by simp, .inr ⟨g1, o1, cur, e, q1, Nat.le_refl _, by omega, by omega, by simp⟩⟩
  have e1 : (pcells ((op, of, v) :: rest)).drop (1 * 3) = pcells rest := by rw [pcells_cons]; rfl
  rw [e1] at hd
  have hnc : n ≤ c := by
    rcases h3.2 with ⟨_, q1, q2⟩ | ⟨_, _, _, _, _, q, _⟩
    · omega
    · exact q
  have hr : n - 1 = rest.length := by omega
  by_cases hc : c = 1
  · subst hc
    have hr0 : rest = [] := List.eq_nil_of_length_eq_zero (by omega)
    subst hr0
    refine (spStepA w hD hi hG hN s g off n 0 h1 (by omega) (by omega) trivial hnF op of v hp.2 hop hl c1 c2 c3).mono ?_
    rintro e w' ⟨rfl, hD', hC', hCh⟩
    refine ⟨by rw [hr], hD', ⟨_, _, _, hC', by simp; simp at h2; omega, ?_, h4, h5⟩, hCh⟩
    have hz : n - 1 = 0 := by simp at h2; omega
    rw [hz]
    exact (hcl.keep (fun b hb => hCh.block b (hcl.lt hb) (fun hx => hx.elim (fun hf => (h5 b hb).1 (hF b (hcl.lt hb) hf)) (fun he => (h5 b hb).2 he)))) |> (by simpa [pcells] using ·)
  · refine (spStepB w hD hi hG hN s g off n c h1 (by omega) (by omega) hc hnF op of v hp.2 hop hl c1 c2 c3).mono ?_
    rintro e w' ⟨rfl, hD', hC', hCh⟩
    have h5' : ∀ b, OwnB (some (⟨g, off + 1 * 3, none⟩ : Addr)) b → ¬ K b ∧ b ≠ s := fun b hb => h5 b (by simpa [OwnB] using hb)
    exact ⟨by rw [hr], hD', ⟨_, _, _, hC', by omega, hd.keep (fun b hb => hCh.block b (hd.lt hb) (fun hx => hx.elim (fun hf => (h5' b hb).1 (hF b (hd.lt hb) hf)) (fun he => (h5' b hb).2 he))), h4, h5'⟩, hCh⟩
set_option maxHeartbeats 400000 in
theorem spStepE {K : Nat → Prop} {s T : Nat} (w : World) (h : Stp K s T w []) : Calls Try.prog 38 #[.pointer (some ⟨s, 0, none⟩)] w fun e w' => e = .returned (.bool true) ∧ w = w' := by
  obtain ⟨A, n, c, h1, rfl, _⟩ := h
  have k1 : w.cell? ⟨s, 1, none⟩ = some (.slice A 0 c) := h1.cell_some rfl
  have kl := h1.lt
  clear h1
  go_enter Try.func38, Try.ntmps38
  go_wp2
  go_ret
  exact ⟨rfl, rfl⟩
set_option maxHeartbeats 400000 in
theorem spLeftV {K : Nat → Prop} {s T n : Nat} (w : World) {rest : List Ins} (h : Stp K s T w rest) (hn : rest.length = n) : Calls Try.prog 46 #[.pointer (some ⟨s, 0, none⟩)] w fun e w' => e = .returned (.int .i64 (n : Int)) ∧ w = w' := by
  obtain ⟨A, n', c, h1, rfl, _⟩ := h
  subst hn
  have k1 : w.cell? ⟨s, 1, none⟩ = some (.slice A rest.length c) := h1.cell_some rfl
  have kl := h1.lt
  clear h1
  go_enter Try.func46, Try.ntmps46
  go_wp2
  go_ret
  exact ⟨rfl, rfl⟩
set_option maxHeartbeats 400000 in
theorem spErrV {F K : Nat → Prop} {d i s : Nat} {t : Nat → Nat} {S : DevS} (w : World) (hD : DV F d t w S) (hi : i < 8) {rest : List Ins} (h : Stp K s (t i) w rest) : Calls Try.prog 39 #[.pointer (some ⟨s, 0, none⟩)] w fun e w' => e = .returned (.int .i64 (S.thr i).err) ∧ w = w' := by
  obtain ⟨A, n', c, h1, rfl, _⟩ := h
  have k0 : w.cell? ⟨s, 0, none⟩ = some (.iface 49 (.pointer (some ⟨t i, 0, none⟩))) := h1.cell_some rfl
  have kl := h1.lt
  have HE := Lib.hid (vErr hD i hi)
  clear h1 hD
  go_enter Try.func39, Try.ntmps39
  go_wp2_with (go_at_call 51; refine HE.out.mono ?_; rintro e w1 ⟨rfl, rfl⟩)
  go_ret
  exact ⟨rfl, rfl⟩
/-- What Finish leaves. -/
def FinPost (F K : Nat → Prop) (d i s : Nat) (t : Nat → Nat) (S : DevS) (w : World) (e : Ending) (w' : World) : Prop :=
  e = .returned (.bool true) ∧ DV F d t w' S ∧ Stp K s (t i) w' [] ∧ Ch (fun b => F b ∨ b = s) w w'
set_option maxRecDepth 100000 in
set_option maxHeartbeats 1000000 in
theorem finishV {F K : Nat → Prop} {d i N s : Nat} {t : Nat → Nat} {S : DevS} (w : World) (hD : DV F d t w S) (hi : i < 8) (hG : Good S N) (ps : List Ins) (m : Nat) (hm : ps.length = m) (hN : N + m < 1000000) (n : Nat) (hn : m < n) (hnb : n < 100000) (h : Stp K s (t i) w ps) (hF : ∀ b, F b → K b) (hps : ∀ p ∈ ps, insB p = true ∧ 0 ≤ p.2.1 ∧ p.2.1 < 18446744073709551616) :
    Calls Try.prog 57 #[.iface 73 (.pointer (some ⟨s, 0, none⟩)), .int .i64 (n : Int)] w (FinPost F K d i s t (S.runP i ps) w) := by
  have HI0 : Hid (DV F d t w (S.runP i (ps.take 0)) ∧ Stp K s (t i) w (ps.drop 0) ∧ Ch (fun b => F b ∨ b = s) w w) := ⟨hD, h, Ch.refl _ _⟩
  have HG := Lib.hid hG
  have HM := Lib.hid hm
  have HPS := Lib.hid hps
  clear hD h hG hm hps
  go_enter Try.func57, Try.ntmps57
  go_wp2
  go_loopw [5, 8, 9, 10, 11, 12, 13, 14] (fun i' _ _ _ _ _ _ _ wr => ∃ k : Nat, (k = 0 ∨ k < m) ∧ i' = .int .i64 k ∧ DV F d t wr (S.runP i (ps.take k)) ∧ Stp K s (t i) wr (ps.drop k) ∧ Ch (fun b => F b ∨ b = s) w wr) (fun i' _ _ _ _ _ _ _ _ => n - (intOf i').toNat)
  case atStart => exact ⟨0, .inl rfl, rfl, HI0.out.1, HI0.out.2.1, HI0.out.2.2⟩
  case round =>
    clear HI0
    obtain ⟨k, hk, rfl, hDk, hSk, hCk⟩ := hrel
    have HDk := Lib.hid hDk
    have HSk := Lib.hid hSk
    have HCk := Lib.hid hCk
    clear hDk hSk hCk
    have hkn : (k : Int) < (n : Int) := by omega
    by_cases hlt : k < m
    · have hkl : k < ps.length := by rw [HM.out]; exact hlt
      have HGk : Hid (Good (S.runP i (ps.take k)) (N + k)) := by
        have := Good.runP hi (ps.take k) HG.out (fun p hp => (HPS.out p (List.mem_of_mem_take hp)).2.1) (by rw [List.length_take]; omega)
        rwa [List.length_take, Nat.min_eq_left (by omega)] at this
      have HSU : Hid (S.runP i (ps.take (k + 1)) = (S.runP i (ps.take k)).exec1 i ps[k]) := by
        show _ = _
        rw [List.take_succ_eq_append_getElem hkl, runP_snoc]
      have hSS := HSk.out
      rw [List.drop_eq_getElem_cons hkl] at hSS
      have HC := Lib.hid (spStepV wr HDk.out hi HGk.out (by omega) ps[k] (ps.drop (k + 1)) hSS (fun b _ hf => hF b hf) (by rw [List.length_drop, HM.out]; omega) (HPS.out _ (List.getElem_mem hkl)))
      have HL : Hid ((ps.drop (k + 1)).length = m - (k + 1)) := by show _ = _; rw [List.length_drop, HM.out]
      rw [HL.out, ← HSU.out] at HC
      clear hSS HDk HSk HSU HL
      by_cases hlast : k + 1 = m
      · have hd : decide (m - (k + 1) = 0) = true := by simp; omega
        rw [hd] at HC
        go_wp2_with (go_at_call 38; refine HC.out.mono ?_; rintro e w2 ⟨rfl, hD2, hS2, hC2⟩; have HD2 := Lib.hid hD2; have HS2 := Lib.hid hS2; have HC2 := Lib.hid (HCk.out.trans hC2 (fun b h _ => h)); clear hD2 hS2 hC2)
        go_ret
        have e1 : ps.take (k + 1) = ps := List.take_of_length_le (by rw [HM.out]; omega)
        have e2 : ps.drop (k + 1) = [] := List.drop_eq_nil_of_le (by rw [HM.out]; omega)
        rw [e1] at HD2
        rw [e2] at HS2
        exact ⟨rfl, HD2.out, HS2.out, HC2.out⟩
      · have hd : decide (m - (k + 1) = 0) = false := by simp; omega
        rw [hd] at HC
        go_wp2_with (go_at_call 38; refine HC.out.mono ?_; rintro e w2 ⟨rfl, hD2, hS2, hC2⟩; have HD2 := Lib.hid hD2; have HS2 := Lib.hid hS2; have HC2 := Lib.hid (HCk.out.trans hC2 (fun b h _ => h)); clear hD2 hS2 hC2)
        go_roundw
        case rel => exact ⟨k + 1, .inr (by omega), by go_num, HD2.out, HS2.out, HC2.out⟩
        case measure => simp [intOf]; omega
    · obtain ⟨rfl, rfl⟩ : k = 0 ∧ m = 0 := by omega
      have hps0 : ps = [] := List.eq_nil_of_length_eq_zero HM.out
      subst hps0
      have HC := Lib.hid (spStepE wr HSk.out)
      go_wp2_with (go_at_call 38; refine HC.out.mono ?_; rintro e w2 ⟨rfl, rfl⟩)
      go_ret
      exact ⟨rfl, HDk.out, HSk.out, HCk.out⟩
end Go.Proofs.Ytngkhligjkcbmaa

namespace Go.Proofs.Ytngkhligjkcbmaa
open Go.RowKit
set_option linter.unusedVariables false

set_option maxHeartbeats 400000 in
theorem zStep (w : World) (o : Nat) (h1 : w.cell? ⟨o, 1, none⟩ = some (.slice none 0 0)) (hl : o < w.heap.size) : Calls Try.prog 38 #[.pointer (some ⟨o, 0, none⟩)] w fun e w' => e = .returned (.bool true) ∧ w = w' := by
  go_enter Try.func38, Try.ntmps38
  go_wp2
  go_ret
  exact ⟨rfl, rfl⟩
set_option maxHeartbeats 400000 in
theorem zErr (w : World) (o : Nat) (h1 : w.cell? ⟨o, 0, none⟩ = some (.nilIface)) (hl : o < w.heap.size) : Calls Try.prog 39 #[.pointer (some ⟨o, 0, none⟩)] w fun e w' => e = .returned (.int .i64 1) ∧ w = w' := by
  go_enter Try.func39, Try.ntmps39
  go_wp2
  go_ret
  exact ⟨rfl, rfl⟩
set_option maxHeartbeats 400000 in
theorem zLeft (w : World) (o : Nat) (h1 : w.cell? ⟨o, 1, none⟩ = some (.slice none 0 0)) (hl : o < w.heap.size) : Calls Try.prog 46 #[.pointer (some ⟨o, 0, none⟩)] w fun e w' => e = .returned (.int .i64 0) ∧ w = w' := by
  go_enter Try.func46, Try.ntmps46
  go_wp2
  go_ret
  exact ⟨rfl, rfl⟩
/-- A stepper that was made while the blocks were not yet there. -/
theorem Stp.carve {K : Nat → Prop} {s T : Nat} {w w' : World} {rest : List Ins} (h : Stp (fun b => b < w.heap.size) s T w' rest) (hK : ∀ b, K b → b < w.heap.size ∨ w'.heap.size ≤ b) : Stp K s T w' rest := by
  obtain ⟨A, n, c, h1, h2, h3, h4, h5⟩ := h
  refine ⟨A, n, c, h1, h2, h3, fun hk => ?_, fun b hb => ⟨fun hk => ?_, (h5 b hb).2⟩⟩
  · have := hK s hk; have := h1.lt; omega
  · have := hK b hk; have := h3.lt hb; have := (h5 b hb).1; omega
/-- Two devices after new blocks that belong to neither. -/
theorem Two.less {F G : Nat → Prop} {d e : Nat} {t u : Nat → Nat} {w w' : World} {S T : DevS} (h : Two F G d t e u w S T) (hb : Below w.heap.size w w') :
    Two (fun b => F b ∧ ¬ (w.heap.size ≤ b ∧ b < w'.heap.size)) (fun b => G b ∧ ¬ (w.heap.size ≤ b ∧ b < w'.heap.size)) d t e u w' S T := by
  refine ⟨h.1.less hb _ (fun b hx => hx), h.2.1.less hb _ (fun b hx => hx), fun b hbl hf hg => ?_⟩
  by_cases hbw : b < w.heap.size
  · exact h.2.2 b hbw hf.1 hg.1
  · exact hf.2 ⟨by omega, hbl⟩
/-- A device that was there, and a fresh one. -/
theorem Two.fresh {F : Nat → Prop} {d : Nat} {t : Nat → Nat} {w w' : World} {S : DevS} (h : DV F d t w S) {e : Nat} {L : Lay} {T : DevS} (hD : Dev w' e L T) (hb : Below w.heap.size w w') (hf : ∀ b, Fp L b → w.heap.size ≤ b) :
    ∃ F' G, Two F' G d t e L.t w' S T ∧ (∀ b, F' b → F b) ∧ ∀ b, G b → w.heap.size ≤ b := by
  have hs := hb.size
  refine ⟨fun b => F b ∧ ¬ (w.heap.size ≤ b ∧ b < w'.heap.size), fun b => w.heap.size ≤ b, ⟨h.less hb (fun b => w.heap.size ≤ b ∧ b < w'.heap.size) (fun b hx => hx), ⟨fun b hb => by omega, L, rfl, hD, hf⟩, fun b hbl hF hG => hF.2 ⟨hG, hbl⟩⟩, fun b hb => hb.1, fun b hb => hb⟩

set_option maxRecDepth 100000 in
set_option maxHeartbeats 4000000 in
theorem finished10_ok {F : Nat → Prop} {d : Nat} {t : Nat → Nat} (w : World) (P : Option Addr) (k m : Nat) (ps : List Ins) (hm : ps.length = m) (hmb : m ≤ 40) (hD : DV F d t w ((newS frW 4).runP 0 ps)) (hS : Sl 32 3 w P m k (pcells ps)) (hps : ∀ p ∈ ps, insB p = true ∧ (0 ≤ p.2.1 ∧ p.2.1 < 18446744073709551616) ∧ (0 ≤ p.2.2 ∧ p.2.2 < 18446744073709551616) ∧ ∃ k : Nat, k < 32 ∧ p.2.1 = 8 * (k : Int)) :
    Calls Try.prog 58 #[.pointer (some ⟨d, 0, none⟩), .slice P m k] w fun e w' => e = .returned (.bool true) ∧ Below w.heap.size w w' := by
  have HF := Lib.hid (fresh_ok w)
  have HD := Lib.hid hD
  have HS := Lib.hid hS
  have HPS := Lib.hid hps
  have HM := Lib.hid hm
  clear hD hS hps hm
  go_enter Try.func58, Try.ntmps58
  go_wp2_with (first
    | (go_at_call 20; refine HF.out.mono ?_; rintro e w1 ⟨c, L, rfl, hd, hb, hf⟩; obtain ⟨F1, G1, hT, hF1, hG1⟩ := Two.fresh HD.out hd hb hf; have HT := Lib.hid hT; have HB1 := Lib.hid hb; have HG1 := Lib.hid hG1; have HTH := Lib.hid (vThread0 hT.2.1); have HR := Lib.hid (memRun w1 hT.2.1 0 (by omega) fr_good P m k ps HM.out (HS.out.keep (fun b hl => hb.block b (HS.out.lt hl))) (fun b hl hg => by have := hG1 b hg; have := HS.out.lt hl; omega) (by omega) (fun p hp => ⟨(HPS.out p hp).1, (HPS.out p hp).2.1⟩)); clear hT hd hb hf hF1 hG1)
    | (go_at_call 22; refine HTH.out.mono ?_; rintro e w' ⟨rfl, rfl⟩)
    | (go_at_call 37; refine HR.out.mono ?_; rintro e w2 ⟨rfl, hD2, hC2⟩; obtain ⟨F2, hT2, hF2⟩ := HT.out.right hD2 hC2; have HAL := Lib.hid (hT2.alike (Same.refl _) (FitS.runP 0 ps fr_fitS (fun p hp => (HPS.out p hp).2.2.1)) (FitC.runP 0 ps fr_fitC (fun p hp => (HPS.out p hp).2.2.1)) (Good.runP (i := 0) (by omega) ps fr_good (fun p hp => (HPS.out p hp).2.1.1) (by rw [HM.out]; omega)) (by rw [HM.out]; omega)); have HB2 : Hid (Below w.heap.size w w2) := (hC2.to_below HB1.out.size (fun b hb => HG1.out b hb)) |> HB1.out.trans; clear hD2 hC2 hT2 hF2)
    | (go_at_call 32; refine HAL.out.mono ?_; rintro e w3 ⟨rfl, hb⟩; have HB3 : Hid (Below w.heap.size w w3) := HB2.out.trans (hb.mono HB2.out.size); clear hb))
  go_ret
  exact ⟨rfl, HB3.out⟩

set_option maxRecDepth 100000 in
set_option maxHeartbeats 8000000 in
theorem law_MemSteps (w : World) (A0 : Option Addr) (n0 c0 : Nat) (z0 : List (Int × Int × Int)) (hz0 : IsTrips w A0 n0 c0 z0) (nb : Int) (hnb : 0 ≤ nb ∧ nb ≤ 255) :
    Calls Try.prog 9 #[.slice A0 n0 c0, .int .u8 nb] w fun e w' => e = .returned (.bool true) ∧ Below w.heap.size w w' := by
  obtain ⟨ps, hps⟩ : ∃ ps, progOf z0 = ps := ⟨_, rfl⟩
  have hl0 := length_progOf z0
  have hok := progOf_ok hz0
  rw [hps] at hl0 hok
  obtain ⟨m, hm⟩ : ∃ m, ps.length = m := ⟨_, rfl⟩
  rw [hm] at hl0
  obtain ⟨g0, hg0⟩ : ∃ g, ps.all insB = g := ⟨_, rfl⟩
  have HAW := Lib.hid (awake10_ok w)
  have HP0 := Lib.hid (fun W (hW : Below w.heap.size w W) => program10_ok W A0 n0 c0 z0 (hz0.bx hW))
  unfold ProgPost at HP0
  rw [hps, hm, hg0] at HP0
  have HM := Lib.hid hm
  have HG0 := Lib.hid hg0
  have HOK := Lib.hid hok
  obtain ⟨nb0, nb1⟩ := hnb
  obtain ⟨nn, hnn⟩ : ∃ nn : Nat, nb = (nn : Int) := ⟨nb.toNat, by omega⟩
  subst hnn
  have hnn : nn ≤ 255 := by omega
  have ei : IntKind.i64.wrap (nn : Int) = (nn : Int) := IntWalk.i64_in _ (by omega)
  clear hz0 hps hm hg0 hok nb0 nb1
  go_enter Try.func9, Try.ntmps9
  go_upto_region 4 with (first
    | (go_at_call 11; refine HAW.out.mono ?_; rintro e w1 ⟨rfl, hb⟩; have HB1 := Lib.hid hb; clear hb)
    | (go_at_call 12; refine (HP0.out w1 HB1.out).mono ?_; rintro e w2 ⟨P0, k0, rfl, hS, hb, hO⟩; have HS0 := Lib.hid hS; have HB2 := Lib.hid (HB1.out.trans (hb.mono HB1.out.size)); have HFR1 := Lib.hid (fresh_ok w2); clear hS hb hO))
  clear HAW HP0 HB1
  go_upto_region 5 with (go_at_call 20; first
    | ((with_reducible refine HFR1.out.mono ?_); rintro e w3 ⟨d1, L1, rfl, hD, hb, hf⟩; have HD1 := Lib.hid hD; have HB3 := Lib.hid hb; have HF1 := Lib.hid hf; have HFR2 := Lib.hid (fresh_ok w3); clear hD hb hf)
    | ((with_reducible refine HFR2.out.mono ?_); rintro e w4 ⟨d2, L2, rfl, hD, hb, hf⟩; have HD2 := Lib.hid hD; have HB4 := Lib.hid hb; have HF2 := Lib.hid hf; clear hD hb hf))
  obtain ⟨F, G, hTwo, hF, hGf⟩ := two_fresh HD1.out HB3.out HF1.out HD2.out HB4.out HF2.out
  obtain ⟨S, hS0, hfit, hfitc, hon⟩ : ∃ S, newS frW 4 = S ∧ FitS S ∧ FitC S ∧ ∃ xs, On S 4 xs 0 := ⟨_, rfl, fr_fitS, fr_fitC, _, new_on frW 4 frW_length⟩
  rw [hS0] at hTwo
  obtain ⟨t1, ht1⟩ : ∃ t, L1.t = t := ⟨_, rfl⟩
  obtain ⟨t2, ht2⟩ : ∃ t, L2.t = t := ⟨_, rfl⟩
  rw [ht1, ht2] at hTwo
  have HS0E := Lib.hid hS0
  have HB24 : Hid (Below w2.heap.size w2 w4) := HB3.out.trans (HB4.out.mono HB3.out.size)
  have HSl4 := Lib.hid (HS0.out.keep (w' := w4) (fun b hb => HB24.out.block b (HS0.out.lt hb)))
  have HTH := Lib.hid (vThread0 hTwo.1)
  have HTW := Lib.hid hTwo
  have HFG := Lib.hid (And.intro hF hGf)
  clear HFR1 HFR2 HD1 HD2 HB3 HB4 HF1 HF2 hS0 ht1 ht2 hTwo hF hGf
  cases g0 with
  | false =>
    have HST := Lib.hid (fun v u => stepBad w4 v u P0 m k0 ps HM.out (by omega) HSl4.out HG0.out)
    go_wp2_with (first
      | (go_at_call 22; refine HTH.out.mono ?_; rintro e w' ⟨rfl, rfl⟩)
      | (go_at_call 34; refine (HST.out _ _).mono ?_; rintro e w5 ⟨s, rfl, hC, hb, hs⟩; have s0 : w5.cell? ⟨s, 0, none⟩ = some .nilIface := hC.cell_some rfl; have s1 : w5.cell? ⟨s, 1, none⟩ = some (.slice none 0 0) := hC.cell_some rfl; have s2 := hC.lt; obtain ⟨G5, hT5, _⟩ := HTW.out.below hb; have HAL := Lib.hid (hT5.alike (Same.refl _) hfit hfitc (by obtain ⟨xs, h⟩ := hon; exact h.good) (by omega)); have HB5 : Hid (Below w2.heap.size w2 w5) := HB24.out.trans (hb.mono HB24.out.size); clear hC hb hT5 hs)
      | (go_at_call 38; refine (zStep _ _ s1 s2).mono ?_; rintro e w' ⟨rfl, rfl⟩)
      | (go_at_call 39; refine (zErr _ _ s0 s2).mono ?_; rintro e w' ⟨rfl, rfl⟩)
      | (go_at_call 46; refine (zLeft _ _ s1 s2).mono ?_; rintro e w' ⟨rfl, rfl⟩)
      | (go_at_call 32; refine HAL.out.mono ?_; rintro e w8 ⟨rfl, hb⟩; have HB8 : Hid (Below w2.heap.size w2 w8) := HB5.out.trans (hb.mono HB5.out.size); clear hb))
    go_ret
    exact ⟨rfl, HB2.out.trans (HB8.out.mono HB2.out.size)⟩
  | true =>
    have hall : ∀ p ∈ ps, insB p = true := List.all_eq_true.1 HG0.out
    have HALL := Lib.hid hall
    have HST := Lib.hid (stepT w4 (t1 0) P0 m k0 ps HM.out (by omega) HSl4.out HG0.out)
    clear hall
    go_upto_region 6 with (first
      | (go_at_call 22; refine HTH.out.mono ?_; rintro e w' ⟨rfl, rfl⟩)
      | (go_at_call 34; refine HST.out.mono ?_; rintro e w5 ⟨s, rfl, hSp, hb, hs⟩; have HSP := Lib.hid hSp; have HB45 := Lib.hid hb; have HSN := Lib.hid hs; clear hSp hb hs))
    have hT5 := HTW.out.less HB45.out
    have hsz45 := HB45.out.size
    obtain ⟨F5, hF5⟩ : ∃ F5 : Nat → Prop, (fun b => F b ∧ ¬ (w4.heap.size ≤ b ∧ b < w5.heap.size)) = F5 := ⟨_, rfl⟩
    obtain ⟨G5, hG5⟩ : ∃ G5 : Nat → Prop, (fun b => G b ∧ ¬ (w4.heap.size ≤ b ∧ b < w5.heap.size)) = G5 := ⟨_, rfl⟩
    rw [hF5, hG5] at hT5
    have hF5b : ∀ b, F5 b → w2.heap.size ≤ b ∧ (b < w4.heap.size ∨ w5.heap.size ≤ b) := by
      rw [← hF5]
      exact fun b hb => ⟨HFG.out.1 b hb.1, by omega⟩
    have hG5b : ∀ b, G5 b → w2.heap.size ≤ b ∧ (b < w4.heap.size ∨ w5.heap.size ≤ b) := by
      rw [← hG5]
      exact fun b hb => ⟨HFG.out.2 b hb.1, by omega⟩
    have hS5 : Stp (fun b => F5 b ∨ G5 b) s (t1 0) w5 ps := HSP.out.carve (fun b hb => hb.elim (fun h => (hF5b b h).2) (fun h => (hG5b b h).2))
    have HB5 : Hid (Below w2.heap.size w2 w5) := HB24.out.trans (HB45.out.mono HB24.out.size)
    have hs2 : w2.heap.size ≤ s := by have := HB24.out.size; have := HSN.out; omega
    have HI0 : Hid (∃ F G, Two F G d1 t1 d2 t2 w5 (S.runP 0 (ps.take 0)) (S.runP 0 (ps.take 0)) ∧ Stp (fun b => F b ∨ G b) s (t1 0) w5 (ps.drop 0) ∧ (∀ b, F b → w2.heap.size ≤ b) ∧ ∀ b, G b → w2.heap.size ≤ b) := ⟨F5, G5, hT5, hS5, fun b hb => (hF5b b hb).1, fun b hb => (hG5b b hb).1⟩
    obtain ⟨xs0, hon0⟩ := hon
    have HSA := Lib.hid hon0.good
    have HFA := Lib.hid hfit
    have HCA := Lib.hid hfitc
    obtain ⟨ys, hys⟩ := On.runP (n := 4) 0 (by omega) ps hon0 (by rw [HM.out]; omega) (fun p hp => ⟨HALL.out p hp, by obtain ⟨k, hk, he⟩ := (HOK.out p hp).2.2; exact ⟨k, by omega, he⟩⟩)
    have HON := Lib.hid hys
    clear hfit hfitc hon0 hys HST HTH HTW HFG HSP HSN HB45 hsz45 hF5 hG5 hT5 hF5b hG5b hS5 HSl4 HB24
    have HGD : Hid (∀ k, k ≤ m → Good (S.runP 0 (ps.take k)) (0 + k)) := by
      intro k hk
      have := Good.runP (i := 0) (by omega) (ps.take k) HSA.out (fun p hp => (HOK.out p (List.mem_of_mem_take hp)).1.1) (by rw [List.length_take]; omega)
      rwa [List.length_take, Nat.min_eq_left (by rw [HM.out]; omega)] at this
    have HFD : Hid (∀ k, FitS (S.runP 0 (ps.take k)) ∧ FitC (S.runP 0 (ps.take k))) := fun k => ⟨FitS.runP 0 _ HFA.out (fun p hp => (HOK.out p (List.mem_of_mem_take hp)).2.1), FitC.runP 0 _ HCA.out (fun p hp => (HOK.out p (List.mem_of_mem_take hp)).2.1)⟩
    go_wp2
    go_loopw [48, 10, 11, 49, 50, 51, 52, 53, 54, 55, 56, 57, 58, 59, 60, 61, 62, 63, 64, 65, 66, 67, 68, 69, 70, 71, 72, 73, 74, 75, 76, 77, 78, 79, 80, 81, 82, 83, 84] (fun i _ _ _ _ _ _ _ _ _ _ _ _ _ _ _ _ _ _ _ _ _ _ _ _ _ _ _ _ _ _ _ _ _ _ _ _ _ _ wr => ∃ k : Nat, k ≤ m ∧ i = .int .i64 k ∧ (∃ F G, Two F G d1 t1 d2 t2 wr (S.runP 0 (ps.take k)) (S.runP 0 (ps.take k)) ∧ Stp (fun b => F b ∨ G b) s (t1 0) wr (ps.drop k) ∧ (∀ b, F b → w2.heap.size ≤ b) ∧ ∀ b, G b → w2.heap.size ≤ b) ∧ Below w2.heap.size w2 wr) (fun i _ _ _ _ _ _ _ _ _ _ _ _ _ _ _ _ _ _ _ _ _ _ _ _ _ _ _ _ _ _ _ _ _ _ _ _ _ _ _ => m - (intOf i).toNat)
    case atStart => exact ⟨0, by omega, rfl, HI0.out, HB5.out⟩
    case round =>
      clear HI0 HB5
      obtain ⟨k, hk, rfl, ⟨Fk, Gk, hT, hSt, hFk, hGk⟩, hB⟩ := hrel
      have HT := Lib.hid hT
      have HST := Lib.hid hSt
      have HGk := Lib.hid (And.intro hFk hGk)
      have HB := Lib.hid hB
      clear hT hSt hFk hGk hB
      by_cases hlt : k < m
      · have hkl : k < ps.length := by rw [HM.out]; exact hlt
        obtain ⟨g, off, hA', hl, x1, x2, x3⟩ := (HS0.out.keep (w' := wr) (fun b hb => HB.out.block b (HS0.out.lt hb))).ins hkl
        obtain ⟨⟨op, of, v⟩, hp⟩ : ∃ p, ps[k] = p := ⟨_, rfl⟩
        rw [hp] at x1 x2 x3
        have hpp := HOK.out _ (List.getElem_mem hkl)
        have hop : 1 ≤ op ∧ op ≤ 3 := by have := HALL.out _ (List.getElem_mem hkl); rw [hp] at this; simpa [insB] using this
        rw [hp] at hpp
        have hof : 0 ≤ of ∧ of < 18446744073709551616 := hpp.1
        have HOF := Lib.hid hof
        have HOP := Lib.hid hop
        have HPP : Hid (insB (op, of, v) = true ∧ 0 ≤ of ∧ of < 18446744073709551616) := ⟨by rw [← hp]; exact HALL.out _ (List.getElem_mem hkl), hof⟩
        have HSU : Hid (S.runP 0 (ps.take (k + 1)) = (S.runP 0 (ps.take k)).exec1 0 (op, of, v)) := by
          show _ = _
          rw [List.take_succ_eq_append_getElem hkl, runP_snoc, hp]
        have hSt := HST.out
        rw [List.drop_eq_getElem_cons hkl, hp] at hSt
        have HST1 := Lib.hid hSt
        have HLD : Hid ((ps.drop (k + 1)).length = m - (k + 1)) := by show _ = _; rw [List.length_drop, HM.out]
        subst hA'
        clear hp hpp hop hof hSt
        by_cases hbr : k = nn
        · subst hbr
          go_upto_region 16 with (fail)
          obtain ⟨V, hV⟩ : ∃ V, wr.alloc (.cells #[.int .u8 op, .int .u64 of, .int .u64 v] 32) = V := ⟨_, rfl⟩
          have hVb : Below wr.heap.size wr V := by rw [← hV]; exact bl_alloc (Below.refl _ _) _
          obtain ⟨G8, hT8, hG8⟩ := HT.out.below hVb
          have HTV : Hid (∃ F G, Two F G d1 t1 d2 t2 V (S.runP 0 (ps.take k)) (S.runP 0 (ps.take k)) ∧ Stp (fun b => F b ∨ G b) s (t1 0) V (ps.drop k) ∧ (∀ b, F b → w2.heap.size ≤ b) ∧ ∀ b, G b → w2.heap.size ≤ b) :=
            ⟨_, _, hT8, (HST.out.below hVb).less (fun b hb => hb.elim (fun h => .inl h) (fun h => .inr (hG8 b h))), HGk.out.1, fun b hb => HGk.out.2 b (hG8 b hb)⟩
          have HBV : Hid (Below w2.heap.size w2 V) := HB.out.trans (hVb.mono HB.out.size)
          rw [hV]
          clear hV hVb hT8 hG8 x1 x2 x3 hl HT HST HST1 HB HSU HPP
          obtain ⟨F6, G6, hT6, hS6, hF6, hG6⟩ := HTV.out
          have HTL := Lib.hid hT6
          have HF6 := Lib.hid hF6
          have HRP : Hid ((S.runP 0 (ps.take k)).runP 0 (ps.drop k) = S.runP 0 ps) := by
            show _ = _
            rw [← runP_append, List.take_append_drop]
          have HFN : Hid (Calls Try.prog 57 #[.iface 73 (.pointer (some ⟨s, 0, none⟩)), .int .i64 ((m : Int) + 1)] V (FinPost F6 (fun b => F6 b ∨ G6 b) d1 0 s t1 (S.runP 0 ps) V)) := by
            have := finishV V hT6.1 (by omega) (HGD.out k (by omega)) (ps.drop k) (m - k) (by rw [List.length_drop, HM.out]) (by omega) (m + 1) (by omega) (by omega) hS6 (fun b hf => .inl hf) (fun p hp => ⟨HALL.out p (List.mem_of_mem_drop hp), (HOK.out p (List.mem_of_mem_drop hp)).1⟩)
            rw [HRP.out] at this
            exact this
          clear HTV hT6 hS6 hF6 hG6
          obtain ⟨Z, hZ⟩ : ∃ Z, S.runP 0 ps = Z := ⟨_, rfl⟩
          have HZ := Lib.hid hZ
          rw [hZ] at HFN HON
          clear hZ
          go_wp2_with (first
            | (go_at_call 57; refine HFN.out.mono ?_; rintro e wf ⟨rfl, hD, hS, hC⟩; have HDF := Lib.hid hD; have HBF : Hid (Below w2.heap.size w2 wf) := HBV.out.trans ((hC.to_below HBV.out.size (fun b hb => hb.elim (fun hf => HF6.out b hf) (fun he => by omega))).mono (Nat.le_refl _)); have HLE := Lib.hid (spLeftV (n := 0) wf hS rfl); have HER : Hid (Calls Try.prog 39 #[.pointer (some ⟨s, 0, none⟩)] wf fun e w' => e = .returned (.int .i64 0) ∧ wf = w') := (by have := spErrV wf hD (by omega) hS; rwa [HON.out.err 0] at this); have HFR := Lib.hid (fresh_ok wf); clear hD hS hC)
            | (go_at_call 46; refine HLE.out.mono ?_; rintro e w' ⟨rfl, rfl⟩)
            | (go_at_call 39; refine HER.out.mono ?_; rintro e w' ⟨rfl, rfl⟩)
            | (go_at_call 20; refine HFR.out.mono ?_; rintro e wg ⟨dg, Lg, rfl, hDg, hb, hf⟩; obtain ⟨Fa, Ga, hTg, hFa, hGa⟩ := Two.fresh HDF.out hDg hb hf; have HTG := Lib.hid hTg; have HFa : Hid (∀ b, Ga b → w2.heap.size ≤ b) := fun b hb => Nat.le_trans HBF.out.size (hGa b hb); have HBG : Hid (Below w2.heap.size w2 wg) := HBF.out.trans (hb.mono HBF.out.size); have HTHg := Lib.hid (vThread0 hTg.2.1); have HRG : Hid (Calls Try.prog 37 #[.slice (some ⟨g, off, none⟩) m k0, .iface 49 (.pointer (some ⟨Lg.t 0, 0, none⟩))] wg (fun e w' => e = .returned (.int .i64 0) ∧ DV Ga dg Lg.t w' Z ∧ Ch Ga wg w')) := (by have := memRun wg hTg.2.1 0 (by omega) fr_good (some ⟨g, off, none⟩) m k0 ps HM.out (HS0.out.keep (fun b hl => HBG.out.block b (HS0.out.lt hl))) (fun b hl hg => by have := HFa.out b hg; have := HS0.out.lt hl; omega) (by omega) (fun p hp => ⟨HALL.out p hp, (HOK.out p hp).1⟩); unfold RunPost at this; rwa [HS0E.out, HZ.out, HON.out.err 0] at this); clear hDg hb hf hTg hFa hGa)
            | (go_at_call 22; refine HTHg.out.mono ?_; rintro e w' ⟨rfl, rfl⟩)
            | (go_at_call 37; refine HRG.out.mono ?_; rintro e wh ⟨rfl, hD, hC⟩; obtain ⟨Fb, hTh, hFb⟩ := HTG.out.right hD hC; have HBH : Hid (Below w2.heap.size w2 wh) := HBG.out.trans ((hC.to_below HBG.out.size (fun b hb => HFa.out b hb)).mono (Nat.le_refl _)); have HFI := Lib.hid (finished10_ok wh (some ⟨g, off, none⟩) k0 m ps HM.out (by omega) (by have := hTh.1; rwa [← HZ.out, ← HS0E.out] at this) (HS0.out.keep (fun b hl => HBH.out.block b (HS0.out.lt hl))) (fun p hp => ⟨HALL.out p hp, HOK.out p hp⟩)); clear hD hC hTh hFb)
            | (go_at_call 58; refine HFI.out.mono ?_; rintro e wi ⟨rfl, hb⟩; have HBI : Hid (Below w2.heap.size w2 wi) := HBH.out.trans (hb.mono HBH.out.size); clear hb))
          go_ret
          exact ⟨rfl, HB2.out.trans (HBI.out.mono HB2.out.size)⟩
        · have hbr' : ¬ (k : Int) = (nn : Int) := by omega
          go_upto_region 12 with (fail)
          obtain ⟨V, hV⟩ : ∃ V, wr.alloc (.cells #[.int .u8 op, .int .u64 of, .int .u64 v] 32) = V := ⟨_, rfl⟩
          have hVb : Below wr.heap.size wr V := by rw [← hV]; exact bl_alloc (Below.refl _ _) _
          obtain ⟨tv, htv⟩ : ∃ tv, wr.heap.size = tv := ⟨_, rfl⟩
          have hVt : CB V tv 32 #[.int .u8 op, .int .u64 of, .int .u64 v] := by rw [← hV, ← htv]; exact CB.new wr _ _
          have y0 : V.cell? ⟨tv, 0, none⟩ = some (.int .u8 op) := hVt.cell_some rfl
          have y1 : V.cell? ⟨tv, 1, none⟩ = some (.int .u64 of) := hVt.cell_some rfl
          have y2 : V.cell? ⟨tv, 2, none⟩ = some (.int .u64 v) := hVt.cell_some rfl
          have y3 : tv < V.heap.size := hVt.lt
          obtain ⟨G8, hT8, hG8⟩ := HT.out.below hVb
          have hT8' := hT8
          have HT8 := Lib.hid hT8'
          have HTV := Lib.hid (fun n => vThread0 (hT8'.2.1.drewN n))
          have HST8 : Hid (Stp (fun b => Fk b ∨ G8 b) s (t1 0) V ((op, of, v) :: ps.drop (k + 1))) := (HST1.out.below hVb).less (fun b hb => hb.elim (fun h => .inl h) (fun h => .inr (hG8 b h)))
          have HG8 : Hid (∀ b, G8 b → w2.heap.size ≤ b) := fun b hb => HGk.out.2 b (hG8 b hb)
          have HB8 : Hid (Below w2.heap.size w2 V) := HB.out.trans (hVb.mono HB.out.size)
          rw [hV, htv]
          clear hV hVb hVt hT8 hT8' htv hG8 x1 x2 x3 hl HT HST HST1 HB
          refine wp_region_still_n 3 (by kernel_rfl) (by kernel_rfl) ?_
          simp only [List.take_succ_cons, List.take_zero, List.drop_succ_cons, List.drop_zero]
          repeat (go_big_quiet_step ((go_at_call 22; exact q_same (HTV.out _))))
          refine wpQuiet_nil ?_
          rintro _ ⟨nq, rfl⟩
          have HGDk := Lib.hid (HGD.out k (by omega))
          have HEX := Lib.hid (exec10 (V.drewN nq) (HT8.out.2.1.drewN nq) 0 (by omega) HGDk.out (by omega) op of v HOF.out HOP.out)
          go_upto_region 13 with (go_at_call 50; refine HEX.out.mono ?_; rintro e w9 ⟨rfl, hD, hC⟩; obtain ⟨F9, hT9, hF9⟩ := (HT8.out.drewN nq).right hD hC; have HT9 := Lib.hid hT9; have HB9 : Hid (Below w2.heap.size w2 w9) := (bl_drewN HB8.out nq).trans (hC.to_below (B := w2.heap.size) HB8.out.size (fun b hb => HG8.out b hb)); have HST9 : Hid (Stp (fun b => F9 b ∨ G8 b) s (t1 0) w9 ((op, of, v) :: ps.drop (k + 1))) := ((HST8.out.drewN nq).ch hC (fun b _ hb => .inr hb)).less (fun b hb => hb.elim (fun h => .inl (hF9 b h)) (fun h => .inr h)); have HF9 : Hid (∀ b, F9 b → w2.heap.size ≤ b) := fun b hb => HGk.out.1 b (hF9 b hb); clear hD hC hT9 hF9)
          have HLF : Hid (Calls Try.prog 46 #[.pointer (some ⟨s, 0, none⟩)] w9 fun e w' => e = .returned (.int .i64 ((m : Int) - (k : Int))) ∧ w9 = w') := by
            have := spLeftV (n := m - k) w9 HST9.out (by simp [HLD.out]; omega)
            rwa [show ((m - k : Nat) : Int) = (m : Int) - (k : Int) by omega] at this
          have HSV : Hid (Calls Try.prog 38 #[.pointer (some ⟨s, 0, none⟩)] w9 fun e w' => e = .returned (.bool ((k : Int) == (m : Int) - 1)) ∧ DV F9 d1 t1 w' (S.runP 0 (ps.take (k + 1))) ∧ Stp (fun b => F9 b ∨ G8 b) s (t1 0) w' (ps.drop (k + 1)) ∧ Ch (fun b => F9 b ∨ b = s) w9 w') := by
            have := spStepV w9 HT9.out.1 (by omega) HGDk.out (by omega) (op, of, v) (ps.drop (k + 1)) HST9.out (fun b _ hf => .inl hf) (by rw [HLD.out]; omega) HPP.out
            rw [HLD.out, ← HSU.out] at this
            have e1 : decide (m - (k + 1) = 0) = ((k : Int) == (m : Int) - 1) := by rw [Bool.eq_iff_iff]; simp; omega
            rwa [e1] at this
          have e0 : ((m : Int) - (k : Int) != (m : Int) - (k : Int)) = false := by simp
          have e2 : (((k : Int) == (m : Int) - 1) != ((k : Int) == (m : Int) - 1)) = false := by simp
          go_wp2_with (first
            | (go_at_call 46; refine HLF.out.mono ?_; rintro e w' ⟨rfl, rfl⟩)
            | (go_at_call 38; refine HSV.out.mono ?_; rintro e wa ⟨rfl, hD, hS, hC⟩; obtain ⟨Ga, hTa, hGa⟩ := HT9.out.left2 hD hC (fun b hb hx hg => hx.elim (fun hf => HT9.out.2.2 b hb hf hg) (fun he => by obtain ⟨_, _, _, _, _, _, h4, _⟩ := HST9.out; exact h4 (.inr (he ▸ hg)))); rw [← HSU.out] at hTa; have HTA := Lib.hid hTa; have HGA : Hid (∀ b, Ga b → w2.heap.size ≤ b) := fun b hb => HG8.out b (hGa b hb); have HSTA : Hid (Stp (fun b => F9 b ∨ Ga b) s (t1 0) wa (ps.drop (k + 1))) := hS.less (fun b hb => hb.elim (fun h => .inl h) (fun h => .inr (hGa b h))); have HBA : Hid (Below w2.heap.size w2 wa) := HB9.out.trans ((hC.to_below HB9.out.size (fun b hb => hb.elim (fun hf => HF9.out b hf) (fun he => by omega))).mono (Nat.le_refl _)); have HAL := Lib.hid (hTa.alike (Same.refl _) (HFD.out (k + 1)).1 (HFD.out (k + 1)).2 (HGD.out (k + 1) (by omega)) (by omega)); clear hD hS hC hTa hGa)
            | (go_at_call 32; refine HAL.out.mono ?_; rintro e wb ⟨rfl, hb⟩; obtain ⟨Gb, hTb, hGb⟩ := HTA.out.below hb; have HTB := Lib.hid hTb; have HNX : Hid (∃ F G, Two F G d1 t1 d2 t2 wb (S.runP 0 (ps.take (k + 1))) (S.runP 0 (ps.take (k + 1))) ∧ Stp (fun b => F b ∨ G b) s (t1 0) wb (ps.drop (k + 1)) ∧ (∀ b, F b → w2.heap.size ≤ b) ∧ ∀ b, G b → w2.heap.size ≤ b) := ⟨F9, Gb, hTb, (HSTA.out.below hb).less (fun b hb => hb.elim (fun h => .inl h) (fun h => .inr (hGb b h))), HF9.out, fun b hb => HGA.out b (hGb b hb)⟩; have HBB : Hid (Below w2.heap.size w2 wb) := HBA.out.trans (hb.mono HBA.out.size); clear hb hTb hGb))
          go_roundw
          case rel => exact ⟨k + 1, by omega, by go_num, HNX.out, HBB.out⟩
          case measure => simp [intOf]; omega
      · obtain rfl : m = k := by omega
        obtain ⟨V, hV⟩ : ∃ V, V = wr := ⟨wr, rfl⟩
        subst hV
        go_upto_region 16 with (fail)
        have HTV : Hid (∃ F G, Two F G d1 t1 d2 t2 V (S.runP 0 (ps.take m)) (S.runP 0 (ps.take m)) ∧ Stp (fun b => F b ∨ G b) s (t1 0) V (ps.drop m) ∧ (∀ b, F b → w2.heap.size ≤ b) ∧ ∀ b, G b → w2.heap.size ≤ b) := ⟨_, _, HT.out, HST.out, HGk.out.1, HGk.out.2⟩
        have HBV := Lib.hid HB.out
        clear HT HST HB
        obtain ⟨F6, G6, hT6, hS6, hF6, hG6⟩ := HTV.out
        have HTL := Lib.hid hT6
        have HF6 := Lib.hid hF6
        have HRP : Hid ((S.runP 0 (ps.take m)).runP 0 (ps.drop m) = S.runP 0 ps) := by
          show _ = _
          rw [← runP_append, List.take_append_drop]
        have HFN : Hid (Calls Try.prog 57 #[.iface 73 (.pointer (some ⟨s, 0, none⟩)), .int .i64 ((m : Int) + 1)] V (FinPost F6 (fun b => F6 b ∨ G6 b) d1 0 s t1 (S.runP 0 ps) V)) := by
          have := finishV V hT6.1 (by omega) (HGD.out m (by omega)) (ps.drop m) (m - m) (by rw [List.length_drop, HM.out]) (by omega) (m + 1) (by omega) (by omega) hS6 (fun b hf => .inl hf) (fun p hp => ⟨HALL.out p (List.mem_of_mem_drop hp), (HOK.out p (List.mem_of_mem_drop hp)).1⟩)
          rw [HRP.out] at this
          exact this
        clear HTV hT6 hS6 hF6 hG6
        obtain ⟨Z, hZ⟩ : ∃ Z, S.runP 0 ps = Z := ⟨_, rfl⟩
        have HZ := Lib.hid hZ
        rw [hZ] at HFN HON
        clear hZ
        go_wp2_with (first
          | (go_at_call 57; refine HFN.out.mono ?_; rintro e wf ⟨rfl, hD, hS, hC⟩; have HDF := Lib.hid hD; have HBF : Hid (Below w2.heap.size w2 wf) := HBV.out.trans ((hC.to_below HBV.out.size (fun b hb => hb.elim (fun hf => HF6.out b hf) (fun he => by omega))).mono (Nat.le_refl _)); have HLE := Lib.hid (spLeftV (n := 0) wf hS rfl); have HER : Hid (Calls Try.prog 39 #[.pointer (some ⟨s, 0, none⟩)] wf fun e w' => e = .returned (.int .i64 0) ∧ wf = w') := (by have := spErrV wf hD (by omega) hS; rwa [HON.out.err 0] at this); have HFR := Lib.hid (fresh_ok wf); clear hD hS hC)
          | (go_at_call 46; refine HLE.out.mono ?_; rintro e w' ⟨rfl, rfl⟩)
          | (go_at_call 39; refine HER.out.mono ?_; rintro e w' ⟨rfl, rfl⟩)
          | (go_at_call 20; refine HFR.out.mono ?_; rintro e wg ⟨dg, Lg, rfl, hDg, hb, hf⟩; obtain ⟨Fa, Ga, hTg, hFa, hGa⟩ := Two.fresh HDF.out hDg hb hf; have HTG := Lib.hid hTg; have HFa : Hid (∀ b, Ga b → w2.heap.size ≤ b) := fun b hb => Nat.le_trans HBF.out.size (hGa b hb); have HBG : Hid (Below w2.heap.size w2 wg) := HBF.out.trans (hb.mono HBF.out.size); have HTHg := Lib.hid (vThread0 hTg.2.1); have HRG : Hid (Calls Try.prog 37 #[.slice P0 m k0, .iface 49 (.pointer (some ⟨Lg.t 0, 0, none⟩))] wg (fun e w' => e = .returned (.int .i64 0) ∧ DV Ga dg Lg.t w' Z ∧ Ch Ga wg w')) := (by have := memRun wg hTg.2.1 0 (by omega) fr_good P0 m k0 ps HM.out (HS0.out.keep (fun b hl => HBG.out.block b (HS0.out.lt hl))) (fun b hl hg => by have := HFa.out b hg; have := HS0.out.lt hl; omega) (by omega) (fun p hp => ⟨HALL.out p hp, (HOK.out p hp).1⟩); unfold RunPost at this; rwa [HS0E.out, HZ.out, HON.out.err 0] at this); clear hDg hb hf hTg hFa hGa)
          | (go_at_call 22; refine HTHg.out.mono ?_; rintro e w' ⟨rfl, rfl⟩)
          | (go_at_call 37; refine HRG.out.mono ?_; rintro e wh ⟨rfl, hD, hC⟩; obtain ⟨Fb, hTh, hFb⟩ := HTG.out.right hD hC; have HBH : Hid (Below w2.heap.size w2 wh) := HBG.out.trans ((hC.to_below HBG.out.size (fun b hb => HFa.out b hb)).mono (Nat.le_refl _)); have HFI := Lib.hid (finished10_ok wh P0 k0 m ps HM.out (by omega) (by have := hTh.1; rwa [← HZ.out, ← HS0E.out] at this) (HS0.out.keep (fun b hl => HBH.out.block b (HS0.out.lt hl))) (fun p hp => ⟨HALL.out p hp, HOK.out p hp⟩)); clear hD hC hTh hFb)
          | (go_at_call 58; refine HFI.out.mono ?_; rintro e wi ⟨rfl, hb⟩; have HBI : Hid (Below w2.heap.size w2 wi) := HBH.out.trans (hb.mono HBH.out.size); clear hb))
        go_ret
        exact ⟨rfl, HB2.out.trans (HBI.out.mono HB2.out.size)⟩
end Go.Proofs.Ytngkhligjkcbmaa
