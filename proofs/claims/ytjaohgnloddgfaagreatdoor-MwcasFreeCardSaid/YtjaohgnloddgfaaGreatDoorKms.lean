/- The law MwcasFree (merged). -/
import Derived.Test.YtjaohgnloddgfaaGreatDoorKmq
namespace Go.Proofs.YtjaohgnloddgfaaGreatDoor
open Go.RowKit
set_option linter.unusedVariables false
set_option linter.unusedSimpArgs false

section
variable {κ : Nat → Nat} {p d : Nat} {t : Nat → Nat} {ks : List Kd} {L0 : Nat → Int} {dk : Nat → Nat} {B n0 a i M cA mu : Nat} {wB w : World} {qs : List TdS} {gs : List Nat} {σ : PwS} {ms : List MaS} {m : MaS} {As : Option Addr}
theorem QS.later (h : QS sumI (atW 0) 40 M17 ks L0 dk B σ ms a) (k : Nat) : QS sumI (atW 0) 40 M17 ks L0 dk B σ ms (a + k) := by
  induction k with
  | zero => exact h
  | succ k ih => exact ih.tick
theorem RunS.later (h : RunS κ p d t ks L0 dk B qs gs w σ ms a) {a' : Nat} (ha : a ≤ a') : RunS κ p d t ks L0 dk B qs gs w σ ms a' := by
  obtain ⟨k, rfl⟩ := Nat.exists_eq_add_of_le ha
  exact ⟨h.q.later k, h.pm, h.mm, h.rw, h.tab, h.k0⟩
theorem Rn2.endCell (h : Rn2 κ p d t ks L0 dk B n0 wB qs gs M As cA a mu ms w) (hi : ms[i]? = some m) (hd : m.done = true) : w.cell? ⟨gs.getD i 0, 7, none⟩ = some (.bool true) := by
  obtain ⟨σ, h1, h2, h3, h4, h5, h6⟩ := h
  obtain ⟨⟨A, c, hC, _⟩, _⟩ := h1.mm i m hi
  obtain ⟨N, xs, L, ord, hI, hL, hN⟩ := h1.q.ex
  have := ((hL.ma i m hi).dn hd).2
  have h7 : w.cell? ⟨gs.getD i 0, 7, none⟩ = some (.bool m.ended) := hC.cell 7
  rw [this] at h7; exact h7
theorem Rn2.get (h : Rn2 κ p d t ks L0 dk B n0 wB qs gs M As cA a mu ms w) (hi : i < M) : ∃ m, ms[i]? = some m := by
  obtain ⟨σ, h1, h2, _⟩ := h
  exact ⟨_, List.getElem?_eq_getElem (by omega)⟩
/-- Machines that are stepped alone, one after another: those in front have ended. -/
def Rn5 (κ : Nat → Nat) (p d : Nat) (t : Nat → Nat) (ks : List Kd) (L0 : Nat → Int) (dk : Nat → Nat) (B n0 : Nat) (wB : World) (qs : List TdS) (gs : List Nat) (M : Nat) (As : Option Addr) (cA a x b : Nat) (xi : Nat → Nat) (wr : World) : Prop :=
  ∃ mu ms, Rn2 κ p d t ks L0 dk B n0 wB qs gs M As cA a mu ms wr ∧ a + mu ≤ 3316 ∧ b + mu ≤ 2316 ∧ ∀ (i : Nat) (m : MaS), i < x → ms[xi i]? = some m → m.done = true
theorem Rn5.step {x b : Nat} {xi : Nat → Nat} (h : Rn5 κ p d t ks L0 dk B n0 wB qs gs M As cA a x b xi w) (hB : B ≤ 100000) (hi : i < M) (hO : ∀ b, OwnB As b → κ b = 9) (hkb : ∀ b, b < n0 → κ b = 1) (hnd : w.cell? ⟨gs.getD i 0, 11, none⟩ = some (.bool false)) :
    Calls Tryz.prog 28 #[.pointer (some ⟨gs.getD i 0, 0, none⟩), .int .i64 (a : Int)] w fun e w' => e = .returned (.tuple #[]) ∧ Rn5 κ p d t ks L0 dk B n0 wB qs gs M As cA (a + 1) x (b + 1) xi w' := by
  obtain ⟨mu, ms, h1, h2, h3, h4⟩ := h
  refine (h1.step (by omega) hi hO hkb).mono ?_
  rintro e w' ⟨rfl, m, m', g1, g2, g3, g4⟩
  have hc := (h1.doneCell g1).1
  rw [hnd] at hc
  have hd : m.done = false := by
    injection hc with hc
    injection hc with hc
    exact hc.symm
  obtain ⟨hmu, g5⟩ := g4 hd
  refine ⟨rfl, mu - 1, ms.set i m', g5, by omega, by omega, fun j mj hj hmj => ?_⟩
  rcases get_set_cases g1 hmj with ⟨e1, e2⟩ | ⟨e1, e2⟩
  · rw [e1] at hmj
    have := h4 j m hj (by rw [e1]; exact g1)
    rw [hd] at this; cases this
  · exact h4 j mj hj e2
/-- The one that is stepped: has it ended? -/
theorem Rn5.cells {x b : Nat} {xi : Nat → Nat} (h : Rn5 κ p d t ks L0 dk B n0 wB qs gs M As cA a x b xi w) (hi : i < M) : (∃ g off, As = some ⟨g, off, none⟩ ∧ g < w.heap.size ∧ w.cell? ⟨g, off + i, none⟩ = some (.pointer (some ⟨gs.getD i 0, 0, none⟩))) ∧ gs.getD i 0 < w.heap.size ∧ (w.cell? ⟨gs.getD i 0, 11, none⟩ = some (.bool false) ∨ (w.cell? ⟨gs.getD i 0, 11, none⟩ = some (.bool true) ∧ w.cell? ⟨gs.getD i 0, 7, none⟩ = some (.bool true) ∧ (i = xi x → Rn5 κ p d t ks L0 dk B n0 wB qs gs M As cA a (x + 1) 0 xi w))) ∧ b ≤ 2316 ∧ a ≤ 3316 := by
  obtain ⟨mu, ms, h1, h2, h3, h4⟩ := h
  obtain ⟨m, hm⟩ := h1.get hi
  obtain ⟨c1, c2⟩ := h1.doneCell hm
  refine ⟨h1.cell hi, c2, ?_, by omega, by omega⟩
  cases hd : m.done with
  | false => left; rw [hd] at c1; exact c1
  | true =>
    right
    rw [hd] at c1
    refine ⟨c1, h1.endCell hm hd, fun hx => ⟨mu, ms, h1, h2, by omega, fun j mj hj hmj => ?_⟩⟩
    by_cases hjx : j = x
    · rw [hjx, ← hx, hm] at hmj
      injection hmj with hmj
      rw [← hmj]; exact hd
    · exact h4 j mj (by omega) hmj
theorem Rn5.done {b : Nat} {xi : Nat → Nat} {cs : List (Int × Int × List (Int × Int × Int))} (h : Rn5 κ p d t ks L0 dk B n0 wB (qsOf (cs.take M)) gs M As cA a M b xi w) (hxi : ∀ j, j < M → ∃ i, i < M ∧ xi i = j) (hgl : gs.length = M) (hM : M = min cs.length 3) (hO : ∀ b, OwnB As b → κ b = 9) (hkb : ∀ b, b < n0 → κ b = 1) :
    ∃ ms L, RunE p d t L0 B n0 wB cs As M cA ms (qsOf (cs.take M)) L w := by
  obtain ⟨mu, ms, ⟨σ, h1, h2, h3, h4, h5, h6⟩, g2, g3, g4⟩ := h
  have hp : RnPost p d t L0 B n0 wB cs true (.returned (.tuple #[.slice As M cA, .bool true])) w := by
    refine ⟨κ, dk, ks, gs, σ, ms, As, cA, a, by rw [h2], by rw [h2]; exact hM, by rw [h2]; exact h1, by rw [h2]; exact hgl, by simp; omega, by rw [h2]; exact h4, hO, fun _ j mj hj => ?_, h5, h6, hkb⟩
    have hjl := (List.getElem?_eq_some_iff.1 hj).1
    obtain ⟨i, hi, hij⟩ := hxi j (by omega)
    exact g4 i mj hi (by rw [hij]; exact hj)
  obtain ⟨As', M', cA', ms', qs', L, he, hE⟩ := hp.ended
  injection he with he
  injection he with he
  have h0 := congrArg (fun z : Array Value => z[0]?) he
  simp at h0
  obtain ⟨rfl, rfl, rfl⟩ := h0
  have := hE.qe
  subst this
  exact ⟨ms', L, hE⟩
end
end Go.Proofs.YtjaohgnloddgfaaGreatDoor

namespace Go.Proofs.YtjaohgnloddgfaaGreatDoor
open Go.RowKit
set_option linter.unusedVariables false
set_option linter.unusedSimpArgs false

theorem around {M al : Nat} (hM : M ≤ 3) (h : al < M) : ∀ j, j < M → ∃ i, i < M ∧ (al + i) % M = j := by
  intro j hj
  refine ⟨(j + M - al) % M, Nat.mod_lt _ (by omega), ?_⟩
  have : M = 1 ∨ M = 2 ∨ M = 3 := by omega
  rcases this with rfl | rfl | rfl <;> omega
theorem frV : vals17 [0, 1, 0, 1, 0, 1, 0, 1] = [0, 1, 0, 1, 0, 1, 0, 1] := by simp [vals17, gt0, List.range_succ]
set_option maxRecDepth 100000 in
set_option maxHeartbeats 16000000 in
theorem walkFree (w : World) (hT : Tab w)
    (A1 : Option Addr) (n1 c1 : Nat) (cs : List (Int × Int × List (Int × Int × Int))) (hn1 : n1 < 9223372036854775808) (hLC : LcV w A1 n1 c1 cs) (hLW : LcW cs)
    (A2 : Option Addr) (n2 c2 : Nat) (ps : List Int) (hps : ps.length = n2) (hn22 : n2 < 9223372036854775808) (hP2 : Rd .i64 w A2 ps) (hpr : ∀ z ∈ ps, -9223372036854775808 ≤ z ∧ z < 9223372036854775808)
    (al : Int) (hal : -9223372036854775808 ≤ al ∧ al < 9223372036854775808) :
    Calls Tryz.prog 5 #[.slice A1 n1 c1, .slice A2 n2 c2, .int .i64 al] w fun e w' => e = .returned (.bool true) ∧ Below w.heap.size w w' := by
  have HT := Lib.hid hT
  have HLC := Lib.hid hLC
  have HLW := Lib.hid hLW
  have HP2 := Lib.hid hP2
  have HPR := Lib.hid hpr
  have HPS := Lib.hid hps
  have HAL := Lib.hid hal
  have HVA : Hid (∀ (W : World) g, IB .u64 23 W g [0, 1, 0, 1, 0, 1, 0, 1] → Calls Tryz.prog 14 #[.slice (some ⟨g, 0, none⟩) 8 8] W fun e w' => ∃ g, e = .returned (.slice (some ⟨g, 0, none⟩) 8 8) ∧ IB .u64 23 w' g [0, 1, 0, 1, 0, 1, 0, 1] ∧ W.heap.size ≤ g ∧ Below W.heap.size W w') := fun W g hI => by
    have := values17 W (some ⟨g, 0, none⟩) 8 8 [0, 1, 0, 1, 0, 1, 0, 1] rfl (by omega) hI.rd0 (by intro z hz; simp at hz; omega)
    rwa [frV] at this
  have hvr := vals17_range [0, 1, 0, 1, 0, 1, 0, 1]
  have hvl := length_vals17 [0, 1, 0, 1, 0, 1, 0, 1]
  rw [frV] at hvr hvl
  obtain ⟨vs, hvs⟩ : ∃ vs : List Int, [0, 1, 0, 1, 0, 1, 0, 1] = vs := ⟨_, rfl⟩
  have HVA2 : Hid (∀ (W : World) g, IB .u64 23 W g [0, 1, 0, 1, 0, 1, 0, 1] → Calls Tryz.prog 14 #[.slice (some ⟨g, 0, none⟩) 8 8] W fun e w' => ∃ g, e = .returned (.slice (some ⟨g, 0, none⟩) 8 8) ∧ IB .u64 23 w' g vs ∧ W.heap.size ≤ g ∧ Below W.heap.size W w') := by
    rw [← hvs]; exact HVA
  rw [hvs] at hvr hvl
  have HVR := Lib.hid hvr
  have HVL := Lib.hid hvl
  have HSU : Hid (∀ (W : World) g, IB .u64 23 W g vs → Calls Tryz.prog 13 #[.slice (some ⟨g, 0, none⟩) 8 8] W (SetPost W vs)) := fun W g hI => setup17 W _ 8 _ HVL.out hI.rd0 HVR.out
  have HAW : Hid (∀ W, Below w.heap.size w W → Calls Tryz.prog 15 #[] W fun e w' => e = .returned (.bool true) ∧ Below W.heap.size W w') := fun W hW => awake17 W (HT.out.ch (Ch.of_below (S := fun _ => False) hW) (fun h => h))
  clear hT hvs hvr hvl hLC hLW hP2 hpr hps hal HVA
  go_enter Tryz.func5, Tryz.ntmps5
  go_upto_region 5 with (first
    | (go_at_call 14; refine (HVA2.out _ _ (CB.new _ _ _)).mono ?_; rintro e w' ⟨g0, rfl, hI, hg, hb⟩; have HI := Lib.hid hI; have HG0 := Lib.hid hg; obtain ⟨x0, rfl⟩ := bx_of hb; clear hI hg hb)
    | (go_at_call 13; refine (HSU.out _ _ HI.out).mono ?_; rintro e w1 ⟨p, d, t, S, rfl, hP, hcl, hb⟩; have HP := Lib.hid hP; have HCL := Lib.hid hcl; obtain ⟨x, rfl⟩ := bx_of hb; clear hP hcl hb)
    | (go_at_call 15; refine (HAW.out _ (by (repeat (first | with_reducible exact Below.refl _ _ | with_reducible refine bl_alloc ?_ _ | with_reducible refine bl_drew ?_ | with_reducible refine bl_drewN ?_ _ | with_reducible refine bl_bx ?_ _ | with_reducible exact BX.below _ | with_reducible refine bl_set ?_ (by first | (exact Nat.le_refl _) | (simp; done) | (simp; omega)) _ | assumption)))).mono ?_; rintro e w2 ⟨rfl, hb⟩; obtain ⟨y, rfl⟩ := bx_of hb; clear hb))
  have HB0 : Hid (Below w.heap.size w x0.w) := bl_bx (bl_alloc (Below.refl _ _) _) x0
  obtain ⟨W0, hW0⟩ : ∃ W0, x0.w = W0 := ⟨_, rfl⟩
  have HBE := Lib.hid ((BegS.start HVR.out HP.out HCL.out x.below (HT.out.ch (Ch.of_below (S := fun _ => False) HB0.out) (fun h => h))).below y.below)
  have HRD0 : Hid (Rd .u64 x0.w (some ⟨g0, 0, none⟩) vs) := HI.out.rd0
  obtain ⟨W, hW⟩ : ∃ W, y.w = W := ⟨_, rfl⟩
  rw [hW] at HBE ⊢
  rw [hW0] at HB0 HBE HRD0
  have HRN : Hid (Calls Tryz.prog 23 #[.pointer (some ⟨p, 0, none⟩), .slice A1 n1 c1, .slice A2 n2 c2, .bool false] W (RnPost p d t (L17 vs) 1000 W0.heap.size W0 cs false)) :=
    run17 (by omega) HBE.out A1 n1 c1 cs hn1 (fun W' hW' => (HLC.out.bl HB0.out).bl hW') HLW.out A2 n2 c2 ps HPS.out hn22 (fun W' hW' => (HP2.out.below HB0.out).below hW') HPR.out false
  clear hW HP HCL HAW HSU HVA2 HLC HLW HP2 HPR HPS HI hW0
  go_upto_region 9 with (go_at_call 23; refine HRN.out.mono ?_; rintro e w2 ⟨κ, dk, ks, gs, σ, ms, As, cA, a0, rfl, hml, hR, hgl, ha, hSl, hO, _, hBl, hnl, hkb⟩; have HRU : Hid (Rn2 κ p d t ks (L17 vs) dk 1000 W0.heap.size W0 (qsOf (cs.take ms.length)) gs ms.length As cA 1000 2316 ms w2) := (by obtain ⟨N, xs, L, ord, hI, _⟩ := hR.q.ex; exact ⟨σ, hR.later (by simp at ha; omega), rfl, muS_le hI hR.q.len, hSl, hBl, hnl⟩); have HML := Lib.hid hml; have HGL := Lib.hid hgl; have HO := Lib.hid hO; have HKB := Lib.hid hkb; have HL3 : Hid (ms.length ≤ 3) := hR.q.len; clear hml hR hgl ha hSl hO hBl hnl hkb)
  obtain ⟨M, hM⟩ : ∃ M, ms.length = M := ⟨_, rfl⟩
  rw [hM] at HRU HML HGL HL3 ⊢
  have hm3 : M ≤ 3 := HL3.out
  obtain ⟨xa, hxa⟩ : ∃ xa : Nat, 0 < M → al % (M : Int) = xa ∧ xa < M := ⟨(al % (M : Int)).toNat, fun h0 => ⟨by have := Int.emod_nonneg al (show (M : Int) ≠ 0 by omega); omega, by have := Int.emod_lt_of_pos al (show (0 : Int) < M by omega); have := Int.emod_nonneg al (show (M : Int) ≠ 0 by omega); omega⟩⟩
  have HXA := Lib.hid hxa
  have HR5 : Hid (Rn5 κ p d t ks (L17 vs) dk 1000 W0.heap.size W0 (qsOf (cs.take M)) gs M As cA 1000 0 0 (fun x => (xa + x) % M) w2) := ⟨2316, ms, HRU.out, by omega, by omega, fun i m hi => by omega⟩
  clear hM hxa HRU
  go_wp2
  go_loopw [42, 12, 6, 13, 14, 15, 43, 44, 45, 46, 47, 48, 49, 50, 51, 52, 53, 54, 55, 56, 57, 58, 59, 60, 61, 62, 63, 64, 65, 66, 67, 68, 69, 70, 71, 72, 73, 74, 75, 76, 77, 78, 79, 80, 81, 82, 83, 84, 85, 86] (fun i a _ _ _ _ _ _ _ _ _ _ _ _ _ _ _ _ _ _ _ _ _ _ _ _ _ _ _ _ _ _ _ _ _ _ _ _ _ _ _ _ _ _ _ _ _ _ _ _ wr => ∃ (x a' : Nat), x ≤ M ∧ i = .int .i64 x ∧ a = .int .i64 a' ∧ Rn5 κ p d t ks (L17 vs) dk 1000 W0.heap.size W0 (qsOf (cs.take M)) gs M As cA a' x 0 (fun x => (xa + x) % M) wr) (fun i a _ _ _ _ _ _ _ _ _ _ _ _ _ _ _ _ _ _ _ _ _ _ _ _ _ _ _ _ _ _ _ _ _ _ _ _ _ _ _ _ _ _ _ _ _ _ _ _ _ => M - (intOf i).toNat)
  case atStart => exact ⟨0, 1000, by omega, rfl, rfl, HR5.out⟩
  case round =>
    clear HR5
    obtain ⟨x, a, hx, rfl, rfl, hR⟩ := hrel
    have HR := Lib.hid hR
    by_cases hlt : x < M
    · have hlt' : (x : Int) < (M : Int) := by omega
      obtain ⟨q1, q2⟩ := HXA.out (by omega)
      have HM1 : Hid (∀ W, Calls Tryz.prog 27 #[.int .i64 al, .int .i64 (M : Int)] W fun r w' => r = .returned (.int .i64 (xa : Int)) ∧ W = w') := fun W => by rw [← q1]; exact mod17 W al HAL.out M (by omega)
      obtain ⟨k, hk⟩ : ∃ k, (xa + x) % M = k := ⟨_, rfl⟩
      have hkM : k < M := by rw [← hk]; exact Nat.mod_lt _ (by omega)
      have HM2 : Hid (∀ W, Calls Tryz.prog 27 #[.int .i64 ((xa : Int) + (x : Int)), .int .i64 (M : Int)] W fun r w' => r = .returned (.int .i64 (k : Int)) ∧ W = w') := fun W => by
        have := mod17 W ((xa : Int) + (x : Int)) (by omega) M (by omega)
        have e : ((xa : Int) + (x : Int)) % (M : Int) = (k : Int) := by rw [← hk, Int.natCast_emod, Int.natCast_add]
        rwa [e] at this
      have HK : Hid ((xa + x) % M = k) := hk
      have hkM' : (k : Int) < (M : Int) := by omega
      have hwrap : IntKind.i64.wrap ((xa : Int) + (x : Int)) = (xa : Int) + (x : Int) := IntWalk.i64_in _ (by omega)
      obtain ⟨⟨gS, oS, hAS, hgS, hcS⟩, hgk, _, _, ha3⟩ := hR.cells hkM
      have HAS := Lib.hid hAS
      rw [hAS]
      obtain ⟨gx, hgx⟩ : ∃ gx, gs.getD k 0 = gx := ⟨_, rfl⟩
      have HGX := Lib.hid hgx
      rw [hgx] at hcS hgk
      clear hR hk hAS hgx q1 q2
      go_upto_region 13 with (first
        | (go_at_call 27; with_reducible refine (HM1.out _).mono ?_; rintro e w' ⟨rfl, rfl⟩)
        | (go_at_call 27; with_reducible refine (HM2.out _).mono ?_; rintro e w' ⟨rfl, rfl⟩))
      obtain ⟨wz, hwz⟩ : ∃ wz, wz = wr := ⟨wr, rfl⟩
      rw [← hwz] at HR ⊢
      clear hwz hcS hgk hgS
      go_wp2
      go_loopw [15, 12, 57, 58, 59, 60, 61, 62, 63, 64, 65, 66, 67, 68, 69, 70, 71, 72] (fun i a _ _ _ _ _ _ _ _ _ _ _ _ _ _ _ _ wr => ∃ (b a' : Nat), i = .int .i64 b ∧ a = .int .i64 a' ∧ Rn5 κ p d t ks (L17 vs) dk 1000 W0.heap.size W0 (qsOf (cs.take M)) gs M As cA a' x b (fun x => (xa + x) % M) wr) (fun i a _ _ _ _ _ _ _ _ _ _ _ _ _ _ _ _ _ => 20000 - (intOf i).toNat)
      case atStart => exact ⟨0, a, rfl, rfl, HR.out⟩
      case round =>
        clear HR
        obtain ⟨b, a2, rfl, rfl, hR⟩ := hrel
        have HR := Lib.hid hR
        obtain ⟨_, hgk, hc11, hb, ha2⟩ := hR.cells hkM
        have hb' : (b : Int) < 20000 := by omega
        rw [HGX.out] at hgk hc11
        rcases hc11 with hc11 | ⟨hc11, hc7, hnx⟩
        · have HST := Lib.hid (hR.step (by omega) hkM HO.out HKB.out (by rw [HGX.out]; exact hc11))
          rw [HGX.out] at HST
          clear hR
          go_wp2_with (go_at_call 28; refine HST.out.mono ?_; rintro e w3 ⟨rfl, hR3⟩; have HR3 := Lib.hid hR3; clear hR3)
          exact ⟨⟨b + 1, a2 + 1, by go_num, by go_num, HR3.out⟩, by simp [intOf]; omega⟩
        · have HNX := Lib.hid (hnx HK.out.symm)
          clear hR hnx
          go_wp2
          exact ⟨⟨x + 1, a2, by omega, by go_num, rfl, by rw [← HAS.out]; exact HNX.out⟩, by simp [intOf]; omega⟩
    · obtain rfl : x = M := by omega
      obtain ⟨ms2, L, hE⟩ := hR.done (cs := cs) (fun j hj => around hm3 (HXA.out (by omega)).2 j hj) HGL.out HML.out HO.out HKB.out
      have HE := Lib.hid hE
      obtain ⟨qs, hqs⟩ : ∃ qs, qsOf (cs.take x) = qs := ⟨_, rfl⟩
      rw [hqs] at HE
      clear hR hE hqs HR
      obtain ⟨wz, hwz⟩ : ∃ wz, wz = wr := ⟨wr, rfl⟩
      rw [← hwz] at HE ⊢
      clear hwz
      have HBW : Hid (Below w.heap.size w wz) := HB0.out.trans (HE.out.bl.mono HB0.out.size)
      have HSN : Hid (∀ W', Below wz.heap.size wz W' → Calls Tryz.prog 31 #[.slice As x cA] W' (SnPost W' (rcs ms2 qs))) := fun W' hW' => by
        have := seen17 W' As x cA ms2 qs (by omega) (HE.out.sn.bl hW')
        rwa [HE.out.seen] at this
      have HLEN : Hid ((rcs ms2 qs).length = x) := by show _ = _; rw [length_rcs (by rw [HE.out.ql, HE.out.ml])]; exact HE.out.ml
      have HRD2 : Hid (Rd .u64 wz (some ⟨g0, 0, none⟩) vs) := HRD0.out.below HE.out.bl
      have HEX : Hid (expl (rcs ms2 qs) (vsOf L) x vs (List.replicate x false) = true) := by
        have := HE.out.ex
        rwa [vs17 vs HVL.out HVR.out] at this
      go_upto_region 22 with (go_at_call 29; refine HE.out.found.mono ?_; rintro e w5 ⟨A5, c5, rfl, hS5, hb5, hO5⟩; have HS5 := Lib.hid hS5; have HB5 := Lib.hid hb5; clear hS5 hb5 hO5)
      go_wp2_with (first
        | (go_at_call 31; refine (HSN.out _ HB5.out).mono ?_; rintro e w6 ⟨A6, c6, rfl, hCl, hb6⟩; rw [HLEN.out] at hCl ⊢; have HCl := Lib.hid hCl; obtain ⟨x6, rfl⟩ := bx_of hb6; clear hCl hb6)
        | (go_at_call 30; refine (refExplains x6.w (some ⟨g0, 0, none⟩) 8 vs HVL.out ((HRD2.out.below HB5.out).below x6.below) A6 x c6 (rcs ms2 qs) (by omega) HCl.out HE.out.words A5 c5 (vsOf L) length_vsOf (HS5.out.rdW.below x6.below)).mono ?_; rw [HEX.out]; rintro e w7 ⟨rfl, hb7⟩; obtain ⟨x7, rfl⟩ := bx_of hb7; clear hb7))
      go_ret
      exact ⟨rfl, bl_bx (bl_bx (HBW.out.trans (HB5.out.mono HBW.out.size)) x6) x7⟩
end Go.Proofs.YtjaohgnloddgfaaGreatDoor
