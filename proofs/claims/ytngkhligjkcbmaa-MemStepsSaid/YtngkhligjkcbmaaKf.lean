/- Meters, and the law MemMeters. -/
import Derived.Test.YtngkhligjkcbmaaKa
import Derived.Test.YtngkhligjkcbmaaKe
namespace Go.Proofs.Ytngkhligjkcbmaa
open Go.RowKit
set_option linter.unusedVariables false

section
variable {S : DevS} {n N : Nat} {xs : List Int}
theorem On.ctr (h : On S n xs N) (ex : Int) : On ({ S with exec := ex } : DevS) n xs N := ⟨h.good.ctr S.off S.armed S.left ex, h.nl, h.cur, h.off, h.armed, h.err⟩
theorem On.cnt (h : On S n xs N) (i : Nat) : S.cntB true = true ∧ S.cnt i true = { S with exec := IntKind.u64.wrap (S.exec + 1) } := cnt_ok h.off h.armed
theorem On.flush (h : On S n xs N) (i k : Nat) (hk : k < 8 * n) (hN : N < 1000000) : On (S.flush i (8 * (k : Int))) n xs (N + 1) := by
  have hG := h.good.flush i (8 * (k : Int)) (by omega) (by omega)
  have hin : S.inB (8 * (k : Int)) = true := by unfold DevS.inB; simp [h.nl]; omega
  obtain ⟨c1, c2⟩ := h.cnt i
  have hE : S.flush i (8 * (k : Int)) = ({ S with exec := IntKind.u64.wrap (S.exec + 1) } : DevS).note i ((8 * (k : Int)) / 64).toNat := by
    unfold DevS.flush
    rw [hin, c1, if_pos rfl, c2]
  rw [hE] at hG ⊢
  refine ⟨hG, h.nl, h.cur, h.off, h.armed, fun j => ?_⟩
  by_cases hj : j = i
  · subst hj; simp [DevS.note, h.err]
  · simp [DevS.note, hj, h.err]
theorem On.fence (h : On S n xs N) (i : Nat) (hi : i < 8) (hN : N < 1000000) : On (S.fence i) n xs (N + 1) := by
  have hG := (h.good.fence hi (by omega)).mono (Nat.le_succ N)
  obtain ⟨c1, c2⟩ := h.cnt i
  have hE : S.fence i = ((({ S with exec := IntKind.u64.wrap (S.exec + 1) } : DevS).upto (({ S with exec := IntKind.u64.wrap (S.exec + 1) } : DevS).due i))).clearN i := by
    unfold DevS.fence; rw [c1, if_pos rfl, c2]
  rw [hE] at hG ⊢
  refine ⟨hG, ?_, h.cur, h.off, h.armed, fun j => ?_⟩
  · show (DevS.upto _ _).lns.length = n
    rw [(length_upto _).2]; exact h.nl
  · by_cases hj : j = i
    · subst hj; simp [DevS.clearN, DevS.upto, h.err]
    · simp [DevS.clearN, hj, DevS.upto, h.err]
/-- A valid instruction of a device of n lines. -/
def vIns (n : Nat) (p : Ins) : Prop := insB p = true ∧ ∃ k : Nat, k < 8 * n ∧ p.2.1 = 8 * (k : Int)
theorem On.exec1 (h : On S n xs N) (i : Nat) (hi : i < 8) (hN : N < 1000000) {p : Ins} (hp : vIns n p) : ∃ ys, On (S.exec1 i p) n ys (N + 1) := by
  obtain ⟨op, of, v⟩ := p
  obtain ⟨h1, k, hk, hof⟩ := hp
  dsimp only at hof
  subst hof
  unfold DevS.exec1
  dsimp only
  split
  · exact ⟨_, h.store i k hk v⟩
  · split
    · exact ⟨_, h.flush i k hk hN⟩
    · exact ⟨_, h.fence i hi hN⟩
theorem On.runP (i : Nat) (hi : i < 8) : ∀ (ps : List Ins) {S : DevS} {N : Nat} {xs : List Int}, On S n xs N → N + ps.length < 1000000 → (∀ p ∈ ps, vIns n p) → ∃ ys, On (S.runP i ps) n ys (N + ps.length) := by
  intro ps
  induction ps with
  | nil => intro S N xs h _ _; exact ⟨xs, h⟩
  | cons p ps ih =>
    intro S N xs h hN hp
    simp only [List.length_cons] at hN ⊢
    obtain ⟨ys, h1⟩ := h.exec1 i hi (by omega) (hp p (by simp))
    obtain ⟨zs, h2⟩ := ih h1 (by omega) (fun q hq => hp q (by simp [hq]))
    exact ⟨zs, by rw [show N + (ps.length + 1) = N + 1 + ps.length by omega]; exact h2⟩
end

@[go_sem] theorem m_pMeter_Load (w : World) (v : Value) : (method 303 75 v "Load").run Try.prog w = .ok (42, v) w := by kernel_rfl
@[go_sem] theorem m_pMeter_Store (w : World) (v : Value) : (method 303 75 v "Store").run Try.prog w = .ok (36, v) w := by kernel_rfl
@[go_sem] theorem m_pMeter_Flush (w : World) (v : Value) : (method 303 75 v "Flush").run Try.prog w = .ok (158, v) w := by kernel_rfl
@[go_sem] theorem m_pMeter_Fence (w : World) (v : Value) : (method 303 75 v "Fence").run Try.prog w = .ok (157, v) w := by kernel_rfl
@[go_sem] theorem m_pMeter_Size (w : World) (v : Value) : (method 303 75 v "Size").run Try.prog w = .ok (44, v) w := by kernel_rfl
@[go_sem] theorem m_pMeter_Err (w : World) (v : Value) : (method 303 75 v "Err").run Try.prog w = .ok (43, v) w := by kernel_rfl
/-- A device, and a meter over its thread i. -/
def Mt (F : Nat → Prop) (d : Nat) (t : Nat → Nat) (c i : Nat) (w : World) (S : DevS) (ld st fl fe : Nat) : Prop :=
  DV F d t w S ∧ CB w c 130 #[.iface 49 (.pointer (some ⟨t i, 0, none⟩)), .int .i64 (ld : Int), .int .i64 (st : Int), .int .i64 (fl : Int), .int .i64 (fe : Int)] ∧ ¬ F c
section
variable {F : Nat → Prop} {d c i : Nat} {t : Nat → Nat} {w w' : World} {S S' : DevS} {ld st fl fe N : Nat}
theorem Mt.below (h : Mt F d t c i w S ld st fl fe) (hb : Below w.heap.size w w') : Mt F d t c i w' S ld st fl fe := ⟨h.1.below hb, h.2.1.below hb, h.2.2⟩
theorem Mt.dev (h : Mt F d t c i w S ld st fl fe) (hD : DV F d t w' S') (hC : Ch F w w') : Mt F d t c i w' S' ld st fl fe := ⟨hD, h.2.1.ch hC h.2.2, h.2.2⟩
theorem Mt.set (h : Mt F d t c i w S ld st fl fe) (k : Nat) (v : Value) : DV F d t (w.setCell ⟨c, k, none⟩ v) S := h.1.ch ((Ch.refl (At c) w).set1 k v) (fun b _ hf ha => h.2.2 (by rw [← show b = c from ha]; exact hf))
end
set_option maxRecDepth 100000 in
set_option maxHeartbeats 1000000 in
theorem mtStoreV {F : Nat → Prop} {d c i : Nat} {t : Nat → Nat} {S : DevS} {ld st fl fe N : Nat} (w : World) (h : Mt F d t c i w S ld st fl fe) (hi : i < 8) (hG : Good S N) (hN : N < 1000000) (hb : st < 1000000) (off v : Int) (ho : 0 ≤ off ∧ off < 18446744073709551616) :
    Calls Try.prog 36 #[.pointer (some ⟨c, 0, none⟩), .int .u64 off, .int .u64 v] w fun e w' => e = .returned (.tuple #[]) ∧ Mt F d t c i w' (S.store i off v) ld (st + 1) fl fe ∧ Ch (fun b => F b ∨ b = c) w w' := by
  have k0 : w.cell? ⟨c, 0, none⟩ = some (.iface 49 (.pointer (some ⟨t i, 0, none⟩))) := h.2.1.cell_some rfl
  have k2 : w.cell? ⟨c, 2, none⟩ = some (.int .i64 (st : Int)) := h.2.1.cell_some rfl
  have f2 := h.2.1.frozen 2
  have kl := h.2.1.lt
  have HS := Lib.hid (storeV (h.set 2 (.int .i64 ((st : Int) + 1))) i hi hG hN off v ho)
  have H := Lib.hid h
  clear h
  go_enter Try.func36, Try.ntmps36
  go_wp2_with (go_at_call 83; refine HS.out.mono ?_; rintro e w1 ⟨rfl, hD, hC⟩; have HD := Lib.hid hD; have HC := Lib.hid hC; clear hD hC)
  go_end0
  have hs : ((st : Int) + 1) = ((st + 1 : Nat) : Int) := by omega
  have h1 := H.out.2.1.set 2 (.int .i64 ((st : Int) + 1))
  rw [hs] at h1 HC
  exact ⟨rfl, ⟨HD.out, h1.ch HC.out H.out.2.2, H.out.2.2⟩, ((Ch.refl (At c) w).set1 2 _).mono (fun b hb _ => .inr hb) |>.trans HC.out (fun b hb _ => .inl hb)⟩
set_option maxRecDepth 100000 in
set_option maxHeartbeats 1000000 in
theorem mtFlushV {F : Nat → Prop} {d c i : Nat} {t : Nat → Nat} {S : DevS} {ld st fl fe N : Nat} (w : World) (h : Mt F d t c i w S ld st fl fe) (hi : i < 8) (hG : Good S N) (hN : N < 1000000) (hb : fl < 1000000) (off : Int) (ho : 0 ≤ off ∧ off < 18446744073709551616) :
    Calls Try.prog 158 #[.pointer (some ⟨c, 0, none⟩), .int .u64 off] w fun e w' => e = .returned (.tuple #[]) ∧ Mt F d t c i w' (S.flush i off) ld st (fl + 1) fe ∧ Ch (fun b => F b ∨ b = c) w w' := by
  have k0 : w.cell? ⟨c, 0, none⟩ = some (.iface 49 (.pointer (some ⟨t i, 0, none⟩))) := h.2.1.cell_some rfl
  have k2 : w.cell? ⟨c, 3, none⟩ = some (.int .i64 (fl : Int)) := h.2.1.cell_some rfl
  have f2 := h.2.1.frozen 3
  have kl := h.2.1.lt
  have HS := Lib.hid (flushV (h.set 3 (.int .i64 ((fl : Int) + 1))) i hi hG hN off ho)
  have H := Lib.hid h
  clear h
  go_enter Try.func158, Try.ntmps158
  go_wp2_with (go_at_call 84; refine HS.out.mono ?_; rintro e w1 ⟨rfl, hD, hC⟩; have HD := Lib.hid hD; have HC := Lib.hid hC; clear hD hC)
  go_end0
  have hs : ((fl : Int) + 1) = ((fl + 1 : Nat) : Int) := by omega
  have h1 := H.out.2.1.set 3 (.int .i64 ((fl : Int) + 1))
  rw [hs] at h1 HC
  exact ⟨rfl, ⟨HD.out, h1.ch HC.out H.out.2.2, H.out.2.2⟩, ((Ch.refl (At c) w).set1 3 _).mono (fun b hb _ => .inr hb) |>.trans HC.out (fun b hb _ => .inl hb)⟩
set_option maxRecDepth 100000 in
set_option maxHeartbeats 1000000 in
theorem mtFenceV {F : Nat → Prop} {d c i : Nat} {t : Nat → Nat} {S : DevS} {ld st fl fe N : Nat} (w : World) (h : Mt F d t c i w S ld st fl fe) (hi : i < 8) (hG : Good S N) (hN : N < 1000000) (hb : fe < 1000000) :
    Calls Try.prog 157 #[.pointer (some ⟨c, 0, none⟩)] w fun e w' => e = .returned (.tuple #[]) ∧ Mt F d t c i w' (S.fence i) ld st fl (fe + 1) ∧ Ch (fun b => F b ∨ b = c) w w' := by
  have k0 : w.cell? ⟨c, 0, none⟩ = some (.iface 49 (.pointer (some ⟨t i, 0, none⟩))) := h.2.1.cell_some rfl
  have k2 : w.cell? ⟨c, 4, none⟩ = some (.int .i64 (fe : Int)) := h.2.1.cell_some rfl
  have f2 := h.2.1.frozen 4
  have kl := h.2.1.lt
  have HS := Lib.hid (fenceV (h.set 4 (.int .i64 ((fe : Int) + 1))) i hi hG hN)
  have H := Lib.hid h
  clear h
  go_enter Try.func157, Try.ntmps157
  go_wp2_with (go_at_call 85; refine HS.out.mono ?_; rintro e w1 ⟨rfl, hD, hC⟩; have HD := Lib.hid hD; have HC := Lib.hid hC; clear hD hC)
  go_end0
  have hs : ((fe : Int) + 1) = ((fe + 1 : Nat) : Int) := by omega
  have h1 := H.out.2.1.set 4 (.int .i64 ((fe : Int) + 1))
  rw [hs] at h1 HC
  exact ⟨rfl, ⟨HD.out, h1.ch HC.out H.out.2.2, H.out.2.2⟩, ((Ch.refl (At c) w).set1 4 _).mono (fun b hb _ => .inr hb) |>.trans HC.out (fun b hb _ => .inl hb)⟩
set_option maxRecDepth 100000 in
set_option maxHeartbeats 1000000 in
theorem mtLoadV {F : Nat → Prop} {d c i n N : Nat} {t : Nat → Nat} {S : DevS} {ld st fl fe : Nat} {xs : List Int} (w : World) (h : Mt F d t c i w S ld st fl fe) (hO : On S n xs N) (hi : i < 8) (hb : ld < 1000000) (off : Int) (k : Nat) (hoff : off = 8 * (k : Int)) (v : Int) (hk : xs[k]? = some v) :
    Calls Try.prog 42 #[.pointer (some ⟨c, 0, none⟩), .int .u64 off] w fun e w' => e = .returned (.int .u64 v) ∧ Mt F d t c i w' S (ld + 1) st fl fe ∧ Ch (At c) w w' := by
  have k0 : w.cell? ⟨c, 0, none⟩ = some (.iface 49 (.pointer (some ⟨t i, 0, none⟩))) := h.2.1.cell_some rfl
  have k2 : w.cell? ⟨c, 1, none⟩ = some (.int .i64 (ld : Int)) := h.2.1.cell_some rfl
  have f2 := h.2.1.frozen 1
  have kl := h.2.1.lt
  have HS := Lib.hid (vLoad (h.set 1 (.int .i64 ((ld : Int) + 1))) i hi hO.off k v (by rw [hO.cur]; exact hk))
  rw [← hoff] at HS
  have H := Lib.hid h
  clear h hoff
  go_enter Try.func42, Try.ntmps42
  go_wp2_with (go_at_call 54; refine HS.out.mono ?_; rintro e w1 ⟨rfl, rfl⟩)
  go_ret
  have hs : ((ld : Int) + 1) = ((ld + 1 : Nat) : Int) := by omega
  have h1 := H.out.2.1.set 1 (.int .i64 ((ld : Int) + 1))
  have h2 := H.out.set 1 (.int .i64 ((ld : Int) + 1))
  rw [hs] at h1 h2 ⊢
  exact ⟨rfl, ⟨h2, h1, H.out.2.2⟩, (Ch.refl (At c) w).set1 1 _⟩
theorem Mt.cells {F : Nat → Prop} {d c i : Nat} {t : Nat → Nat} {S : DevS} {ld st fl fe : Nat} {w : World} (h : Mt F d t c i w S ld st fl fe) : w.cell? ⟨c, 0, none⟩ = some (.iface 49 (.pointer (some ⟨t i, 0, none⟩))) ∧ w.cell? ⟨c, 1, none⟩ = some (.int .i64 (ld : Int)) ∧ w.cell? ⟨c, 2, none⟩ = some (.int .i64 (st : Int)) ∧ w.cell? ⟨c, 3, none⟩ = some (.int .i64 (fl : Int)) ∧ w.cell? ⟨c, 4, none⟩ = some (.int .i64 (fe : Int)) ∧ c < w.heap.size :=
  ⟨h.2.1.cell_some rfl, h.2.1.cell_some rfl, h.2.1.cell_some rfl, h.2.1.cell_some rfl, h.2.1.cell_some rfl, h.2.1.lt⟩
set_option maxHeartbeats 400000 in
theorem mtLoadsV {F : Nat → Prop} {d c i : Nat} {t : Nat → Nat} {S : DevS} {ld st fl fe : Nat} (w : World) (h : Mt F d t c i w S ld st fl fe) : Calls Try.prog 47 #[.pointer (some ⟨c, 0, none⟩)] w fun e w' => e = .returned (.int .i64 (ld : Int)) ∧ w = w' := by
  obtain ⟨k0, k1, k2, k3, k4, kl⟩ := h.cells
  clear h
  go_enter Try.func47, Try.ntmps47
  go_wp2
  go_ret
  exact ⟨rfl, rfl⟩
set_option maxHeartbeats 400000 in
theorem mtStoresV {F : Nat → Prop} {d c i : Nat} {t : Nat → Nat} {S : DevS} {ld st fl fe : Nat} (w : World) (h : Mt F d t c i w S ld st fl fe) : Calls Try.prog 48 #[.pointer (some ⟨c, 0, none⟩)] w fun e w' => e = .returned (.int .i64 (st : Int)) ∧ w = w' := by
  obtain ⟨k0, k1, k2, k3, k4, kl⟩ := h.cells
  clear h
  go_enter Try.func48, Try.ntmps48
  go_wp2
  go_ret
  exact ⟨rfl, rfl⟩
set_option maxHeartbeats 400000 in
theorem mtFlushesV {F : Nat → Prop} {d c i : Nat} {t : Nat → Nat} {S : DevS} {ld st fl fe : Nat} (w : World) (h : Mt F d t c i w S ld st fl fe) : Calls Try.prog 55 #[.pointer (some ⟨c, 0, none⟩)] w fun e w' => e = .returned (.int .i64 (fl : Int)) ∧ w = w' := by
  obtain ⟨k0, k1, k2, k3, k4, kl⟩ := h.cells
  clear h
  go_enter Try.func55, Try.ntmps55
  go_wp2
  go_ret
  exact ⟨rfl, rfl⟩
set_option maxHeartbeats 400000 in
theorem mtFencesV {F : Nat → Prop} {d c i : Nat} {t : Nat → Nat} {S : DevS} {ld st fl fe : Nat} (w : World) (h : Mt F d t c i w S ld st fl fe) : Calls Try.prog 56 #[.pointer (some ⟨c, 0, none⟩)] w fun e w' => e = .returned (.int .i64 (fe : Int)) ∧ w = w' := by
  obtain ⟨k0, k1, k2, k3, k4, kl⟩ := h.cells
  clear h
  go_enter Try.func56, Try.ntmps56
  go_wp2
  go_ret
  exact ⟨rfl, rfl⟩
set_option maxHeartbeats 400000 in
theorem mtSizeV {F : Nat → Prop} {d c i : Nat} {t : Nat → Nat} {S : DevS} {ld st fl fe : Nat} (w : World) (h : Mt F d t c i w S ld st fl fe) (hi : i < 8) (n : Nat) (hn : S.lns.length = n) : Calls Try.prog 44 #[.pointer (some ⟨c, 0, none⟩)] w fun e w' => e = .returned (.int .u64 ((n : Int) * 64)) ∧ w = w' := by
  obtain ⟨k0, k1, k2, k3, k4, kl⟩ := h.cells
  have HS := Lib.hid (vSize h.1 i hi)
  rw [hn] at HS
  clear h
  go_enter Try.func44, Try.ntmps44
  go_wp2_with (go_at_call 155; refine HS.out.mono ?_; rintro e w1 ⟨rfl, rfl⟩)
  go_ret
  exact ⟨rfl, rfl⟩
set_option maxHeartbeats 400000 in
theorem mtErrV {F : Nat → Prop} {d c i : Nat} {t : Nat → Nat} {S : DevS} {ld st fl fe : Nat} (w : World) (h : Mt F d t c i w S ld st fl fe) (hi : i < 8) : Calls Try.prog 43 #[.pointer (some ⟨c, 0, none⟩)] w fun e w' => e = .returned (.int .i64 (S.thr i).err) ∧ w = w' := by
  obtain ⟨k0, k1, k2, k3, k4, kl⟩ := h.cells
  have HS := Lib.hid (vErr h.1 i hi)
  clear h
  go_enter Try.func43, Try.ntmps43
  go_wp2_with (go_at_call 51; refine HS.out.mono ?_; rintro e w1 ⟨rfl, rfl⟩)
  go_ret
  exact ⟨rfl, rfl⟩

set_option maxRecDepth 100000 in
set_option maxHeartbeats 1000000 in
theorem memExecM {F : Nat → Prop} {d c i : Nat} {t : Nat → Nat} {S : DevS} {ld st fl fe N : Nat} (w : World) (h : Mt F d t c i w S ld st fl fe) (hi : i < 8) (hG : Good S N) (hN : N < 1000000) (hst : st < 1000000) (hfl : fl < 1000000) (hfe : fe < 1000000) (op off v : Int) (ho : 0 ≤ off ∧ off < 18446744073709551616) (hop : 1 ≤ op ∧ op ≤ 3) :
    Calls Try.prog 79 #[.agg #[.int .u8 op, .int .u64 off, .int .u64 v], .iface 75 (.pointer (some ⟨c, 0, none⟩))] w fun e w' => e = .returned (.tuple #[]) ∧ Mt F d t c i w' (S.exec1 i (op, off, v)) ld (st + if op == 1 then 1 else 0) (fl + if op == 2 then 1 else 0) (fe + if op == 3 then 1 else 0) ∧ Ch (fun b => F b ∨ b = c) w w' := by
  have H := Lib.hid h
  have HG := Lib.hid hG
  have HO := Lib.hid ho
  have HA := Lib.hid (fun (ob : Obj) => h.below (w' := w.alloc ob) (bl_alloc (Below.refl _ _) _))
  clear h hG ho
  rcases (by omega : op = 1 ∨ op = 2 ∨ op = 3) with rfl | rfl | rfl
  · have HE : Hid (S.exec1 i (1, off, v) = S.store i off v) := by show _ = _; simp [DevS.exec1]
    go_enter Try.func79, Try.ntmps79
    go_wp2_with (first | (go_at_call 36; refine (mtStoreV _ (HA.out _) hi HG.out hN hst off v HO.out).mono ?_; rintro e w1 ⟨rfl, hD, hC⟩; have HD := Lib.hid hD; have HC := Lib.hid hC; clear hD hC))
    go_end0
    rw [HE.out]
    exact ⟨rfl, HD.out, (Ch.of_below (bl_alloc (Below.refl _ _) _)).trans HC.out (fun _ h _ => h)⟩
  · have HE : Hid (S.exec1 i (2, off, v) = S.flush i off) := by show _ = _; simp [DevS.exec1]
    go_enter Try.func79, Try.ntmps79
    go_wp2_with (first | (go_at_call 158; refine (mtFlushV _ (HA.out _) hi HG.out hN hfl off HO.out).mono ?_; rintro e w1 ⟨rfl, hD, hC⟩; have HD := Lib.hid hD; have HC := Lib.hid hC; clear hD hC))
    go_end0
    rw [HE.out]
    exact ⟨rfl, HD.out, (Ch.of_below (bl_alloc (Below.refl _ _) _)).trans HC.out (fun _ h _ => h)⟩
  · have HE : Hid (S.exec1 i (3, off, v) = S.fence i) := by show _ = _; simp [DevS.exec1]
    go_enter Try.func79, Try.ntmps79
    go_wp2_with (first | (go_at_call 157; refine (mtFenceV _ (HA.out _) hi HG.out hN hfe).mono ?_; rintro e w1 ⟨rfl, hD, hC⟩; have HD := Lib.hid hD; have HC := Lib.hid hC; clear hD hC))
    go_end0
    rw [HE.out]
    exact ⟨rfl, HD.out, (Ch.of_below (bl_alloc (Below.refl _ _) _)).trans HC.out (fun _ h _ => h)⟩
end Go.Proofs.Ytngkhligjkcbmaa

namespace Go.Proofs.Ytngkhligjkcbmaa
open Go.RowKit
set_option linter.unusedVariables false

def cntP (ps : List Ins) (o : Int) (k : Nat) : Nat := (ps.take k).countP fun p => p.1 == o
theorem cntP_zero (ps : List Ins) (o : Int) : cntP ps o 0 = 0 := by simp [cntP]
theorem cntP_succ (ps : List Ins) (o : Int) (k : Nat) (hk : k < ps.length) {op of v : Int} (hp : ps[k] = (op, of, v)) : cntP ps o (k + 1) = cntP ps o k + if op == o then 1 else 0 := by
  unfold cntP
  rw [List.take_succ_eq_append_getElem hk, hp, List.countP_append]
  simp [List.countP_cons]
theorem cntP_le (ps : List Ins) (o : Int) (k : Nat) : cntP ps o k ≤ k := by
  unfold cntP
  refine Nat.le_trans List.countP_le_length ?_
  rw [List.length_take]; omega

/-- What Run through a meter leaves. -/
def RunMPost (F : Nat → Prop) (d : Nat) (t : Nat → Nat) (c i : Nat) (S : DevS) (ps : List Ins) (n ld : Nat) (w : World) (e : Ending) (w' : World) : Prop :=
  e = .returned (.int .i64 ((S.runP i ps).thr i).err) ∧ Mt F d t c i w' (S.runP i ps) ld (cntP ps 1 n) (cntP ps 2 n) (cntP ps 3 n) ∧ Ch (fun b => F b ∨ b = c) w w'

set_option maxRecDepth 100000 in
set_option maxHeartbeats 2000000 in
theorem memRunM {F : Nat → Prop} {d c i ld : Nat} {t : Nat → Nat} (w : World) {S : DevS} {N : Nat} (h : Mt F d t c i w S ld 0 0 0) (hi : i < 8) (hG : Good S N) (A : Option Addr) (n cc : Nat) (ps : List Ins) (hn : ps.length = n) (hS : Sl 32 3 w A n cc (pcells ps)) (hA : ∀ b, OwnB A b → ¬ F b ∧ b ≠ c)
    (hN : N + n < 1000000) (hps : ∀ p ∈ ps, insB p = true ∧ 0 ≤ p.2.1 ∧ p.2.1 < 18446744073709551616) :
    Calls Try.prog 37 #[.slice A n cc, .iface 75 (.pointer (some ⟨c, 0, none⟩))] w (RunMPost F d t c i S ps n ld w) := by
  have H := Lib.hid h
  have HG := Lib.hid hG
  have HNN := Lib.hid hn
  have HS := Lib.hid hS
  have HA := Lib.hid hA
  have HPS := Lib.hid hps
  have HV : Hid (Calls Try.prog 77 #[.slice A n cc] w fun e w' => e = .returned (.bool true) ∧ Below w.heap.size w w') := by
    have := memValid w A n cc ps hn (by omega) hS
    rwa [show ps.all insB = true from List.all_eq_true.2 fun p hp => (hps p hp).1] at this
  clear h hG hn hS hA hps
  go_enter Try.func37, Try.ntmps37
  go_wp2_with (first | (go_at_call 77; refine HV.out.mono ?_; rintro e w1 ⟨rfl, hb⟩; obtain ⟨x, rfl⟩ := bx_of hb; clear hb))
  have HI0 : Hid (Mt F d t c i x.w S ld 0 0 0 ∧ Ch (fun b => F b ∨ b = c) w x.w) := ⟨H.out.below x.below, Ch.of_below x.below⟩
  obtain ⟨w1, hw1⟩ : ∃ w1, x.w = w1 := ⟨_, rfl⟩
  rw [hw1] at HI0 ⊢
  clear hw1 HV
  go_loopw [16, 6, 17, 18, 19, 20, 21, 22, 23] (fun i' _ _ _ _ _ _ _ _ wr => ∃ k : Nat, k ≤ n ∧ i' = .int .i64 k ∧ Mt F d t c i wr (S.runP i (ps.take k)) ld (cntP ps 1 k) (cntP ps 2 k) (cntP ps 3 k) ∧ Ch (fun b => F b ∨ b = c) w wr) (fun i' _ _ _ _ _ _ _ _ _ => n - (intOf i').toNat)
  case atStart => exact ⟨0, by omega, rfl, HI0.out.1, HI0.out.2⟩
  case round =>
    obtain ⟨k, hk, rfl, hD, hC⟩ := hrel
    have HD := Lib.hid hD
    have HC := Lib.hid hC
    by_cases hlt : k < n
    · have hkl : k < ps.length := by rw [HNN.out]; exact hlt
      obtain ⟨g, off, hA', hl, c1, c2, c3⟩ := (HS.out.ch hC (fun b hb h => h.elim (fun hf => (HA.out b hb).1 hf) (fun he => (HA.out b hb).2 he))).ins hkl
      obtain ⟨⟨op, of, v⟩, hp⟩ : ∃ p, ps[k] = p := ⟨_, rfl⟩
      rw [hp] at c1 c2 c3
      have hpp := HPS.out _ (List.getElem_mem hkl)
      rw [hp] at hpp
      have HP := Lib.hid hp
      subst hA'
      have HGk : Hid (Good (S.runP i (ps.take k)) (N + k)) := by
        have := Good.runP hi (ps.take k) HG.out (fun p hp => (HPS.out p (List.mem_of_mem_take hp)).2.1) (by rw [List.length_take]; omega)
        rwa [List.length_take, Nat.min_eq_left (by omega)] at this
      have hop : 1 ≤ op ∧ op ≤ 3 := by have := hpp.1; simpa [insB] using this
      have HOF := Lib.hid hpp.2
      have hgn : ¬ g = wr.heap.size := by omega
      have q1 := cntP_le ps 1 k
      have q2 := cntP_le ps 2 k
      have q3 := cntP_le ps 3 k
      clear hD hC hp hpp
      go_wp2_with (first | (go_at_call 79; refine (memExecM _ (HD.out.below (by (repeat (first | with_reducible exact Below.refl _ _ | with_reducible refine bl_alloc ?_ _ | with_reducible refine bl_drew ?_ | with_reducible refine bl_drewN ?_ _ | with_reducible refine bl_bx ?_ _ | with_reducible exact BX.below _ | with_reducible refine bl_set ?_ (by first | (exact Nat.le_refl _) | (simp; done) | (simp; omega)) _ | assumption)))) hi HGk.out (by omega) (by omega) (by omega) (by omega) op of v HOF.out hop).mono ?_; rintro e w2 ⟨rfl, hD2, hC2⟩; have HD2 := Lib.hid hD2; have HC2 := Lib.hid hC2; clear hD2 hC2))
      go_roundw
      case rel =>
        refine ⟨k + 1, by omega, by go_num, ?_, (HC.out.alloc _).trans HC2.out (fun _ h _ => h)⟩
        rw [List.take_succ_eq_append_getElem hkl, runP_snoc, HP.out, cntP_succ ps 1 k hkl HP.out, cntP_succ ps 2 k hkl HP.out, cntP_succ ps 3 k hkl HP.out]
        exact HD2.out
      case measure => simp [intOf]; omega
    · obtain rfl : k = n := by omega
      clear hD hC
      have hE : ps.take k = ps := List.take_of_length_le (by rw [HNN.out]; omega)
      rw [hE] at HD
      have HER := Lib.hid (mtErrV wr HD.out hi)
      clear hE
      go_wp2_with (first | (go_at_call 43; refine HER.out.mono ?_; rintro e w2 ⟨rfl, rfl⟩))
      go_ret
      exact ⟨rfl, HD.out, HC.out⟩
set_option maxHeartbeats 400000 in
theorem countT (w : World) (T : Nat) : Calls Try.prog 35 #[.iface 49 (.pointer (some ⟨T, 0, none⟩))] w fun e w' => ∃ s, e = .returned (.pointer (some ⟨s, 0, none⟩)) ∧ CB w' s 130 #[.iface 49 (.pointer (some ⟨T, 0, none⟩)), .int .i64 0, .int .i64 0, .int .i64 0, .int .i64 0] ∧ Below w.heap.size w w' ∧ w.heap.size ≤ s := by
  go_enter Try.func35, Try.ntmps35
  go_wp2
  go_ret
  exact ⟨_, rfl, CB.new _ _ _, (by repeat (first | with_reducible exact Below.refl _ _ | with_reducible refine bl_alloc ?_ _ | with_reducible refine bl_drew ?_ | with_reducible refine bl_drewN ?_ _ | with_reducible refine bl_bx ?_ _ | with_reducible exact BX.below _ | with_reducible refine bl_set ?_ (by first | (exact Nat.le_refl _) | (simp; done) | (simp; omega)) _ | assumption)), Nat.le_refl _⟩
/-- A call of the first device and of blocks that the second does not have. -/
theorem Two.left2 {F G X : Nat → Prop} {d e : Nat} {t u : Nat → Nat} {w w' : World} {S S' T : DevS} (h : Two F G d t e u w S T) (hD : DV F d t w' S') (hC : Ch X w w') (hX : ∀ b, b < w.heap.size → X b → ¬ G b) : ∃ G', Two F G' d t e u w' S' T ∧ ∀ b, G' b → G b := by
  obtain ⟨h1, ⟨g1, L, hL, hDev, hFp⟩, h3⟩ := h
  have hlt : ∀ b, Fp L b → b < w.heap.size := fun b hb => hDev.fr b hb
  refine ⟨fun b => G b ∧ ¬ (w.heap.size ≤ b ∧ b < w'.heap.size), ⟨hD, ⟨fun b hb => ⟨g1 b (by have := hC.size; omega), by omega⟩, L, hL, hDev.keep (fun b hb => hC.block b (hlt b hb) (fun hf => hX b (hlt b hb) hf (hFp b hb))) hC.size, fun b hb => ⟨hFp b hb, by have := hlt b hb; omega⟩⟩, fun b hb hf hg => ?_⟩, fun b hb => hb.1⟩
  by_cases hbw : b < w.heap.size
  · exact h3 b hbw hf hg.1
  · exact hg.2 ⟨by omega, hb⟩
/-- A new block that belongs to neither. -/
theorem Two.carve {F G : Nat → Prop} {d e c : Nat} {t u : Nat → Nat} {w w' : World} {S T : DevS} (h : Two F G d t e u w S T) (hb : Below w.heap.size w w') (hc : w.heap.size ≤ c) (hc' : c < w'.heap.size) :
    ∃ F' G', Two F' G' d t e u w' S T ∧ ¬ F' c ∧ ¬ G' c ∧ (∀ b, F' b → F b) ∧ ∀ b, G' b → G b := by
  refine ⟨fun b => F b ∧ ¬ b = c, fun b => G b ∧ ¬ (w.heap.size ≤ b ∧ b < w'.heap.size), ⟨h.1.less hb (fun b => b = c) (fun b he => ⟨by omega, by omega⟩), h.2.1.less hb _ (fun b hx => hx), fun b hbl hf hg => ?_⟩, fun hf => hf.2 rfl, fun hg => hg.2 ⟨hc, hc'⟩, fun b hb => hb.1, fun b hb => hb.1⟩
  by_cases hbw : b < w.heap.size
  · exact h.2.2 b hbw hf.1 hg.1
  · exact hg.2 ⟨by omega, hbl⟩

set_option maxRecDepth 100000 in
set_option maxHeartbeats 8000000 in
theorem law_MemMeters (w : World) (A0 : Option Addr) (n0 c0 : Nat) (z0 : List (Int × Int × Int)) (hz0 : IsTrips w A0 n0 c0 z0) (nb : Int) (hnb : 0 ≤ nb ∧ nb ≤ 255) :
    Calls Try.prog 8 #[.slice A0 n0 c0, .int .u8 nb] w fun e w' => e = .returned (.bool true) ∧ Below w.heap.size w w' := by
  obtain ⟨ps, hps⟩ : ∃ ps, progOf z0 = ps := ⟨_, rfl⟩
  have hl0 := length_progOf z0
  have hok := progOf_ok hz0
  rw [hps] at hl0 hok
  obtain ⟨m, hm⟩ : ∃ m, ps.length = m := ⟨_, rfl⟩
  rw [hm] at hl0
  obtain ⟨g0, hg0⟩ : ∃ g, ps.all insB = g := ⟨_, rfl⟩
  have HAW := Lib.hid (awake10_ok w)
  have HP0 := Lib.hid (fun W (hW : Below w.heap.size w W) => program10_ok W A0 n0 c0 z0 (hz0.bx hW))
  unfold ProgPost at HP0
  rw [hps, hm, hg0] at HP0
  have HM := Lib.hid hm
  have HG0 := Lib.hid hg0
  have HOK := Lib.hid hok
  obtain ⟨nb0, nb1⟩ := hnb
  obtain ⟨nn, hnn⟩ : ∃ nn : Nat, nb = (nn : Int) := ⟨nb.toNat, by omega⟩
  subst hnn
  have hnn : nn ≤ 255 := by omega
  have eu : IntKind.u64.wrap (nn : Int) = (nn : Int) := IntWalk.u64_in _ (by omega)
  have ei : IntKind.i64.wrap (nn : Int) = (nn : Int) := IntWalk.i64_in _ (by omega)
  clear hz0 hps hm hg0 hok nb0 nb1
  go_enter Try.func8, Try.ntmps8
  go_upto_region 4 with (first
    | (go_at_call 11; refine HAW.out.mono ?_; rintro e w1 ⟨rfl, hb⟩; have HB1 := Lib.hid hb; clear hb)
    | (go_at_call 12; refine (HP0.out w1 HB1.out).mono ?_; rintro e w2 ⟨P0, k0, rfl, hS, hb, hO⟩; have HS0 := Lib.hid hS; have HO0 := Lib.hid hO; have HB2 := Lib.hid (HB1.out.trans (hb.mono HB1.out.size)); have HFR1 := Lib.hid (fresh_ok w2); clear hS hb hO))
  clear HAW HP0 HB1
  cases g0 with
  | false =>
    go_wp2
    go_ret
    exact ⟨rfl, HB2.out⟩
  | true =>
    have hall : ∀ p ∈ ps, insB p = true := List.all_eq_true.1 HG0.out
    have HALL := Lib.hid hall
    clear hall
    go_upto_region 7 with (go_at_call 20; first
      | ((with_reducible refine HFR1.out.mono ?_); rintro e w3 ⟨d1, L1, rfl, hD, hb, hf⟩; have HD1 := Lib.hid hD; have HB3 := Lib.hid hb; have HF1 := Lib.hid hf; have HFR2 := Lib.hid (fresh_ok w3); clear hD hb hf)
      | ((with_reducible refine HFR2.out.mono ?_); rintro e w4 ⟨d2, L2, rfl, hD, hb, hf⟩; have HD2 := Lib.hid hD; have HB4 := Lib.hid hb; have HF2 := Lib.hid hf; clear hD hb hf))
    obtain ⟨F, G, hTwo, hF, hGf⟩ := two_fresh HD1.out HB3.out HF1.out HD2.out HB4.out HF2.out
    obtain ⟨S, hS0, hfit, hfitc, hon⟩ : ∃ S, newS frW 4 = S ∧ FitS S ∧ FitC S ∧ ∃ xs, On S 4 xs 0 := ⟨_, rfl, fr_fitS, fr_fitC, _, new_on frW 4 frW_length⟩
    rw [hS0] at hTwo
    obtain ⟨t1, ht1⟩ : ∃ t, L1.t = t := ⟨_, rfl⟩
    obtain ⟨t2, ht2⟩ : ∃ t, L2.t = t := ⟨_, rfl⟩
    rw [ht1, ht2] at hTwo
    have HB24 : Hid (Below w2.heap.size w2 w4) := HB3.out.trans (HB4.out.mono HB3.out.size)
    obtain ⟨xs0, hon0⟩ := hon
    have HSA := Lib.hid hon0.good
    have HFA := Lib.hid hfit
    have HCA := Lib.hid hfitc
    obtain ⟨ys, hys⟩ := On.runP (n := 4) 0 (by omega) ps hon0 (by rw [HM.out]; omega) (fun p hp => ⟨HALL.out p hp, by obtain ⟨k, hk, he⟩ := (HOK.out p hp).2.2; exact ⟨k, by omega, he⟩⟩)
    have HON := Lib.hid hys
    have HTH := Lib.hid (vThread0 hTwo.1)
    have HTW := Lib.hid hTwo
    clear HFR1 HFR2 HD1 HD2 HB3 HB4 HF1 HF2 hS0 ht1 ht2 hTwo hfit hfitc hon0 hys
    go_upto_region 8 with (first
      | (go_at_call 22; refine HTH.out.mono ?_; rintro e w' ⟨rfl, rfl⟩)
      | (go_at_call 35; refine (countT _ _).mono ?_; rintro e w5 ⟨c, rfl, hC, hb, hc⟩; have HC5 := Lib.hid hC; have HB45 := Lib.hid hb; have HCN := Lib.hid hc; clear hC hb hc))
    have hcl := HC5.out.lt
    obtain ⟨F5, G5, hT5, hF5c, hG5c, hF5, hG5⟩ := HTW.out.carve HB45.out HCN.out hcl
    have HB5 : Hid (Below w2.heap.size w2 w5) := HB24.out.trans (HB45.out.mono HB24.out.size)
    have HMT5 : Hid (Mt F5 d1 t1 c 0 w5 S 0 0 0 0) := ⟨hT5.1, HC5.out, hF5c⟩
    have HT5 := Lib.hid hT5
    have HSl5 := Lib.hid (HS0.out.keep (w' := w5) (fun b hb => HB5.out.block b (HS0.out.lt hb)))
    have hc2 : w2.heap.size ≤ c := by have := HB24.out.size; have := HCN.out; omega
    have HRM := Lib.hid (memRunM w5 HMT5.out (by omega) HSA.out P0 m k0 ps HM.out HSl5.out (fun b hb => ⟨fun hf => by have := hF b (hF5 b hf); have := HS0.out.lt hb; omega, fun he => by have := HS0.out.lt hb; omega⟩) (by omega) (fun p hp => ⟨HALL.out p hp, (HOK.out p hp).1⟩))
    have HG5 : Hid (∀ b, G5 b → w2.heap.size ≤ b) := fun b hb => hGf b (hG5 b hb)
    have HG5c := Lib.hid hG5c
    have HF5 : Hid (∀ b, F5 b → w2.heap.size ≤ b) := fun b hb => hF b (hF5 b hb)
    clear hF hGf HTW HTH HB24 HC5 HB45 HCN hcl hT5 hF5 hG5 hF5c hG5c
    go_upto_region 10 with (go_at_call 37; refine HRM.out.mono ?_; rintro e w6 ⟨rfl, hM, hC⟩; obtain ⟨G6, hT6, hG6⟩ := HT5.out.left2 hM.1 hC (fun b hb hx hg => hx.elim (fun hf => HT5.out.2.2 b hb hf hg) (fun he => HG5c.out (he ▸ hg))); have HT6 := Lib.hid hT6; have HM6 := Lib.hid hM; have HB6 : Hid (Below w2.heap.size w2 w6) := HB5.out.trans ((hC.to_below HB5.out.size (fun b hb => hb.elim (fun hf => HF5.out b hf) (fun he => by omega))).mono (Nat.le_refl _)); have HG6 : Hid ((∀ b, G6 b → w2.heap.size ≤ b) ∧ ¬ G6 c) := ⟨fun b hb => HG5.out b (hG6 b hb), fun hg => HG5c.out (hG6 c hg)⟩; clear hM hC hT6 hG6)
    rw [HON.out.err 0]
    obtain ⟨Z, hZ⟩ : ∃ Z, S.runP 0 ps = Z := ⟨_, rfl⟩
    have HZ := Lib.hid hZ
    rw [hZ] at HT6 HM6 HON
    obtain ⟨st, hst⟩ : ∃ st, cntP ps 1 m = st := ⟨_, rfl⟩
    obtain ⟨fl, hfl⟩ : ∃ fl, cntP ps 2 m = fl := ⟨_, rfl⟩
    obtain ⟨fe, hfe⟩ : ∃ fe, cntP ps 3 m = fe := ⟨_, rfl⟩
    rw [hst, hfl, hfe] at HM6
    have HCT := Lib.hid (And.intro hst (And.intro hfl hfe))
    clear hZ hst hfl hfe HRM HT5 HMT5 HSl5 HG5 HG5c HB5
    have HYL : Hid (ys.length = 32) := HON.out.length
    have HI0 : Hid (∃ G, Two F5 G d1 t1 d2 t2 w6 Z S ∧ Mt F5 d1 t1 c 0 w6 Z 0 st fl fe ∧ (∀ b, G b → w2.heap.size ≤ b) ∧ ¬ G c) := ⟨G6, HT6.out, HM6.out, HG6.out⟩
    clear HT6 HM6 HG6
    go_loopw [38, 4, 11, 39, 40, 41, 42, 43, 44, 45, 46, 47, 48, 49, 50, 51, 52, 53] (fun i _ _ _ _ _ _ _ _ _ _ _ _ _ _ _ _ _ wr => ∃ k : Nat, k ≤ nn ∧ i = .int .u64 k ∧ (∃ G, Two F5 G d1 t1 d2 t2 wr Z S ∧ Mt F5 d1 t1 c 0 wr Z k st fl fe ∧ (∀ b, G b → w2.heap.size ≤ b) ∧ ¬ G c) ∧ Below w2.heap.size w2 wr) (fun i _ _ _ _ _ _ _ _ _ _ _ _ _ _ _ _ _ _ => nn - (intOf i).toNat)
    case atStart => exact ⟨0, by omega, rfl, HI0.out, HB6.out⟩
    case round =>
      clear HI0
      obtain ⟨k, hk, rfl, ⟨Gk, hT, hMk, hGk, hGc⟩, hB⟩ := hrel
      have HT := Lib.hid hT
      have HMk := Lib.hid hMk
      have HGk := Lib.hid (And.intro hGk hGc)
      have HB := Lib.hid hB
      clear hT hMk hGk hGc hB
      by_cases hlt : k < nn
      · have hlt' : (k : Int) < (nn : Int) := by omega
        obtain ⟨q, hq⟩ : ∃ q, k % 32 = q := ⟨_, rfl⟩
        have hq1 : (k : Int) % 32 = (q : Int) := by omega
        have hq2 : q < 32 := by omega
        have e8 : IntKind.u64.wrap (8 * (q : Int)) = 8 * (q : Int) := IntWalk.u64_in _ (by omega)
        have ek : IntKind.u64.wrap ((k : Int) + 1) = ((k + 1 : Nat) : Int) := by rw [IntWalk.u64_in _ (by omega)]; omega
        obtain ⟨v, hv⟩ : ∃ v, ys[q]? = some v := ⟨_, List.getElem?_eq_getElem (by rw [HYL.out]; omega)⟩
        have hvv : (v != v) = false := by simp
        have HLD := Lib.hid (mtLoadV wr HMk.out HON.out (by omega) (by omega) (8 * (q : Int)) q rfl v hv)
        have HV := Lib.hid hv
        clear hq hv
        go_wp2_with (first
          | (go_at_call 42; refine HLD.out.mono ?_; rintro e w7 ⟨rfl, hM, hC⟩; obtain ⟨G7, hT7, hG7⟩ := HT.out.left2 hM.1 hC (fun b hb hx hg => HGk.out.2 (by rw [← show b = c from hx]; exact hg)); have HT7 := Lib.hid hT7; have HM7 := Lib.hid hM; have HB7 : Hid (Below w2.heap.size w2 w7) := HB.out.trans ((hC.to_below HB.out.size (fun b hb => by rw [show b = c from hb]; exact hc2)).mono (Nat.le_refl _)); have HG7 : Hid ((∀ b, G7 b → w2.heap.size ≤ b) ∧ ¬ G7 c) := ⟨fun b hb => HGk.out.1 b (hG7 b hb), fun hg => HGk.out.2 (hG7 c hg)⟩; have HT71 := Lib.hid (vThread1 hM.1); have HL7 := Lib.hid (vLoad hM.1 1 (by omega) HON.out.off q v (by rw [HON.out.cur]; exact HV.out)); clear hM hC hT7 hG7)
          | (go_at_call 22; refine HT71.out.mono ?_; rintro e w' ⟨rfl, rfl⟩)
          | (go_at_call 54; refine HL7.out.mono ?_; rintro e w' ⟨rfl, rfl⟩))
        go_roundw
        case rel => exact ⟨k + 1, by omega, by go_num, ⟨G7, HT7.out, HM7.out, HG7.out⟩, HB7.out⟩
        case measure => simp [intOf]; omega
      · obtain rfl : k = nn := by omega
        have HI1 : Hid (∃ F G, Two F G d1 t1 d2 t2 wr Z (S.runP 0 (ps.take 0)) ∧ Mt F d1 t1 c 0 wr Z k st fl fe ∧ (∀ b, G b → w2.heap.size ≤ b) ∧ ¬ G c) := ⟨F5, Gk, HT.out, HMk.out, HGk.out⟩
        obtain ⟨V0, hV0⟩ : ∃ V, V = wr := ⟨wr, rfl⟩
        subst hV0
        clear HT HMk HGk
        go_wp2
        go_loopw [56, 12, 13, 14, 16, 57, 58, 59, 60, 61, 62, 63, 64, 65, 66, 67, 68, 69, 70, 71, 72, 73, 74, 75, 76] (fun i x y q _ _ _ _ _ _ _ _ _ _ _ _ _ _ _ _ _ _ _ _ _ wr => ∃ j : Nat, j ≤ m ∧ i = .int .i64 j ∧ x = .int .i64 (cntP ps 1 j : Nat) ∧ y = .int .i64 (cntP ps 2 j : Nat) ∧ q = .int .i64 (cntP ps 3 j : Nat) ∧ (∃ F G, Two F G d1 t1 d2 t2 wr Z (S.runP 0 (ps.take j)) ∧ Mt F d1 t1 c 0 wr Z k st fl fe ∧ (∀ b, G b → w2.heap.size ≤ b) ∧ ¬ G c) ∧ Below w2.heap.size w2 wr) (fun i _ _ _ _ _ _ _ _ _ _ _ _ _ _ _ _ _ _ _ _ _ _ _ _ _ => m - (intOf i).toNat)
        case atStart => exact ⟨0, by omega, rfl, by rw [cntP_zero]; rfl, by rw [cntP_zero]; rfl, by rw [cntP_zero]; rfl, HI1.out, HB.out⟩
        case round =>
          clear HI1 HB
          obtain ⟨j, hj, rfl, rfl, rfl, rfl, ⟨Fk, Gk, hT, hMk, hGk, hGc⟩, hB⟩ := hrel
          have HT := Lib.hid hT
          have HMk := Lib.hid hMk
          have HGk := Lib.hid (And.intro hGk hGc)
          have HB := Lib.hid hB
          have q1 := cntP_le ps 1 j
          have q2 := cntP_le ps 2 j
          have q3 := cntP_le ps 3 j
          clear hT hMk hGk hGc hB
          by_cases hlt : j < m
          · have hkl : j < ps.length := by rw [HM.out]; exact hlt
            obtain ⟨g, off, hA', hl, x1, x2, x3⟩ := (HS0.out.keep (w' := wr) (fun b hb => HB.out.block b (HS0.out.lt hb))).ins hkl
            obtain ⟨⟨op, of, v⟩, hp⟩ : ∃ p, ps[j] = p := ⟨_, rfl⟩
            rw [hp] at x1 x2 x3
            have hpp := HOK.out _ (List.getElem_mem hkl)
            have hop : 1 ≤ op ∧ op ≤ 3 := by have := HALL.out _ (List.getElem_mem hkl); rw [hp] at this; simpa [insB] using this
            rw [hp] at hpp
            have hof : 0 ≤ of ∧ of < 18446744073709551616 := hpp.1
            have HOF := Lib.hid hof
            have HOP := Lib.hid hop
            have HGd : Hid (Good (S.runP 0 (ps.take j)) (0 + j)) := by
              have := Good.runP (i := 0) (by omega) (ps.take j) HSA.out (fun p hp => (HOK.out p (List.mem_of_mem_take hp)).1.1) (by rw [List.length_take]; omega)
              rwa [List.length_take, Nat.min_eq_left (by omega)] at this
            have HSU : Hid (S.runP 0 (ps.take (j + 1)) = (S.runP 0 (ps.take j)).exec1 0 (op, of, v)) := by
              show _ = _
              rw [List.take_succ_eq_append_getElem hkl, runP_snoc, hp]
            have HCS := Lib.hid (And.intro (cntP_succ ps 1 j hkl hp) (And.intro (cntP_succ ps 2 j hkl hp) (cntP_succ ps 3 j hkl hp)))
            subst hA'
            clear hp hpp hof
            obtain ⟨a1, ha1⟩ : ∃ a, cntP ps 1 j = a := ⟨_, rfl⟩
            obtain ⟨a2, ha2⟩ : ∃ a, cntP ps 2 j = a := ⟨_, rfl⟩
            obtain ⟨a3, ha3⟩ : ∃ a, cntP ps 3 j = a := ⟨_, rfl⟩
            rw [ha1, ha2, ha3] at HCS ⊢
            rw [ha1] at q1
            rw [ha2] at q2
            rw [ha3] at q3
            clear ha1 ha2 ha3
            go_wp2
            obtain ⟨V, hV⟩ : ∃ V, wr.alloc (.cells #[.int .u8 op, .int .u64 of, .int .u64 v] 32) = V := ⟨_, rfl⟩
            have hVb : Below wr.heap.size wr V := by rw [← hV]; exact bl_alloc (Below.refl _ _) _
            obtain ⟨tv, htv⟩ : ∃ tv, wr.heap.size = tv := ⟨_, rfl⟩
            have hVt : CB V tv 32 #[.int .u8 op, .int .u64 of, .int .u64 v] := by rw [← hV, ← htv]; exact CB.new wr _ _
            have y0 : V.cell? ⟨tv, 0, none⟩ = some (.int .u8 op) := hVt.cell_some rfl
            have y1 : V.cell? ⟨tv, 1, none⟩ = some (.int .u64 of) := hVt.cell_some rfl
            have y2 : V.cell? ⟨tv, 2, none⟩ = some (.int .u64 v) := hVt.cell_some rfl
            have y3 : tv < V.heap.size := hVt.lt
            obtain ⟨F8, G8, hT8, hF8v, hG8v, hF8, hG8⟩ := HT.out.carve hVb (Nat.le_of_eq htv) y3
            have HT8 := Lib.hid hT8
            have HTV := Lib.hid (fun n => vThread0 (hT8.2.1.drewN n))
            have HB8 : Hid (Below w2.heap.size w2 V) := HB.out.trans (hVb.mono HB.out.size)
            have HM8 : Hid (Mt F8 d1 t1 c 0 V Z k st fl fe) := ⟨hT8.1, HMk.out.2.1.below hVb, fun hf => HMk.out.2.2 (hF8 c hf)⟩
            have HG8 : Hid ((∀ b, G8 b → w2.heap.size ≤ b) ∧ ¬ G8 c) := ⟨fun b hb => HGk.out.1 b (hG8 b hb), fun hg => HGk.out.2 (hG8 c hg)⟩
            have HVT := Lib.hid hVt
            have HG8v := Lib.hid hG8v
            rw [hV, htv]
            clear hV hVb hVt hT8 htv hF8 hG8 hF8v hG8v
            refine wp_region_still_n 3 (by kernel_rfl) (by kernel_rfl) ?_
            simp only [List.take_succ_cons, List.take_zero, List.drop_succ_cons, List.drop_zero]
            repeat (go_big_quiet_step ((go_at_call 22; exact q_same (HTV.out _))))
            refine wpQuiet_nil ?_
            rintro _ ⟨nq, rfl⟩
            have HEX := Lib.hid (exec10 (V.drewN nq) (HT8.out.2.1.drewN nq) 0 (by omega) HGd.out (by omega) op of v HOF.out HOP.out)
            go_upto_region 20 with (go_at_call 50; refine HEX.out.mono ?_; rintro e w9 ⟨rfl, hD, hC⟩; obtain ⟨F9, hT9, hF9⟩ := (HT8.out.drewN nq).right hD hC; have HT9 := Lib.hid hT9; have HB9 : Hid (Below w2.heap.size w2 w9) := (bl_drewN HB8.out nq).trans (hC.to_below (B := w2.heap.size) HB8.out.size (fun b hb => HG8.out.1 b hb)); have HM9 : Hid (Mt F9 d1 t1 c 0 w9 Z k st fl fe) := ⟨hT9.1, (HM8.out.2.1.drewN nq).ch hC HG8.out.2, fun hf => HM8.out.2.2 (hF9 c hf)⟩; have K9 := (HVT.out.drewN nq).ch hC HG8v.out; have z0 : w9.cell? ⟨tv, 0, none⟩ = some (.int .u8 op) := K9.cell_some rfl; have z1 := K9.lt; clear hD hC hT9 hF9 K9)
            have HNX : Hid (∃ F G, Two F G d1 t1 d2 t2 w9 Z (S.runP 0 (ps.take (j + 1))) ∧ Mt F d1 t1 c 0 w9 Z k st fl fe ∧ (∀ b, G b → w2.heap.size ≤ b) ∧ ¬ G c) := ⟨F9, G8, by rw [HSU.out]; exact HT9.out, HM9.out, HG8.out⟩
            obtain ⟨p1, p2, p3⟩ := HCS.out
            have HPC := Lib.hid (And.intro p1 (And.intro p2 p3))
            clear p1 p2 p3 HCS
            rcases (by omega : op = 1 ∨ op = 2 ∨ op = 3) with rfl | rfl | rfl
            · go_wp2
              go_roundw
              case rel => exact ⟨j + 1, by omega, by go_num, by rw [HPC.out.1]; go_num, by rw [HPC.out.2.1]; rfl, by rw [HPC.out.2.2]; rfl, HNX.out, HB9.out⟩
              case measure => simp [intOf]; omega
            · go_wp2
              go_roundw
              case rel => exact ⟨j + 1, by omega, by go_num, by rw [HPC.out.1]; rfl, by rw [HPC.out.2.1]; go_num, by rw [HPC.out.2.2]; rfl, HNX.out, HB9.out⟩
              case measure => simp [intOf]; omega
            · go_wp2
              go_roundw
              case rel => exact ⟨j + 1, by omega, by go_num, by rw [HPC.out.1]; rfl, by rw [HPC.out.2.1]; rfl, by rw [HPC.out.2.2]; go_num, HNX.out, HB9.out⟩
              case measure => simp [intOf]; omega
          · obtain rfl : j = m := by omega
            have HTK : Hid (ps.take j = ps) := List.take_of_length_le (by rw [HM.out]; exact Nat.le_refl _)
            rw [HTK.out, HZ.out] at HT
            rw [HCT.out.1, HCT.out.2.1, HCT.out.2.2]
            have hfs := FitS.runP 0 ps HFA.out (fun p hp => (HOK.out p hp).2.1)
            have hfc := FitC.runP 0 ps HCA.out (fun p hp => (HOK.out p hp).2.1)
            rw [HZ.out] at hfs hfc
            have HAL := Lib.hid (HT.out.alike (Same.refl _) hfs hfc HON.out.good (by rw [HM.out]; omega))
            have HKb := Lib.hid (fun W (hW : Below wr.heap.size wr W) => HMk.out.below hW)
            clear hfs hfc
            go_wp2_with (first
              | (go_at_call 32; refine HAL.out.mono ?_; rintro e w8 ⟨rfl, hb⟩; have HB8 := Lib.hid hb; clear hb)
              | (go_at_call 47; refine (mtLoadsV _ (HKb.out _ HB8.out)).mono ?_; rintro e w' ⟨rfl, rfl⟩)
              | (go_at_call 48; refine (mtStoresV _ (HKb.out _ HB8.out)).mono ?_; rintro e w' ⟨rfl, rfl⟩)
              | (go_at_call 55; refine (mtFlushesV _ (HKb.out _ HB8.out)).mono ?_; rintro e w' ⟨rfl, rfl⟩)
              | (go_at_call 56; refine (mtFencesV _ (HKb.out _ HB8.out)).mono ?_; rintro e w' ⟨rfl, rfl⟩)
              | (go_at_call 44; refine (mtSizeV _ (HKb.out _ HB8.out) (by omega) 4 HON.out.nl).mono ?_; rintro e w' ⟨rfl, rfl⟩))
            go_ret
            exact ⟨by simp, HB2.out.trans ((HB.out.trans (HB8.out.mono HB.out.size)).mono HB2.out.size)⟩
end Go.Proofs.Ytngkhligjkcbmaa
