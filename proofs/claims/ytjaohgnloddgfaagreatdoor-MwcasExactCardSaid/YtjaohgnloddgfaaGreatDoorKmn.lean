/- A machine's step (merged). -/
import Derived.Test.YtjaohgnloddgfaaGreatDoorKmm
import Derived.Test.YtjaohgnloddgfaaGreatDoorKmb
import Derived.Test.YtjaohgnloddgfaaGreatDoorKmj
import Derived.Test.YtjaohgnloddgfaaGreatDoorPure
namespace Go.Proofs.YtjaohgnloddgfaaGreatDoor
open Go.RowKit
set_option linter.unusedVariables false
set_option linter.unusedSimpArgs false

def opV (m : MaS) : Value := match m.kd with
  | .op _ => .pointer (some ⟨m.blk, 0, none⟩)
  | .rd _ => .pointer none
def rdP (m : MaS) : Value := match m.kd with
  | .op _ => .pointer none
  | .rd _ => .pointer (some ⟨m.blk, 0, none⟩)
/-- The cells of a machine. -/
def mcs (m : MaS) (q : TdS) (A : Option Addr) (c : Nat) : Array Value :=
  #[opV m, rdP m, .bool q.es.isEmpty, .int .i64 q.word, .slice A q.es.length c, .int .i64 m.bg, .int .i64 m.en, .bool m.ended, .bool m.ok, .int .u64 m.val, .bool m.on, .bool m.done]
/-- Machine i in block g. Roles of blocks: 0 the pool's, 1 what does not change, i + 2 machine i's. -/
structure MaM (κ : Nat → Nat) (i p : Nat) (t : Nat → Nat) (w : World) (g : Nat) (m : MaS) (q : TdS) : Prop where
  ex : ∃ A c, CB w g 54 (mcs m q A c) ∧ RsV w A q.es.length c q.es ∧ ∀ b, OwnB A b → κ b = 1
  kg : κ g = i + 2
  kd : KdOk q m.kd
  td : TdOk q
  rd : ∀ k, m.kd = .rd k → κ m.blk = i + 2 ∧ m.blk ≠ g ∧ CB w m.blk 130 (rdcells (.pointer (some ⟨p, 0, none⟩)) (.pointer (some ⟨t m.rs.th, 0, none⟩)) m.rs)
theorem RsV.keep {w w' : World} {A : Option Addr} {m c : Nat} {es : List REnt} (h : RsV w A m c es) (hs : w.heap.size ≤ w'.heap.size) (hb : ∀ b, b < w.heap.size → OwnB A b → w'.heap[b]? = w.heap[b]?) : RsV w' A m c es := by
  refine ⟨h.1, h.2.1, fun k hk => ?_⟩
  obtain ⟨g, off, hA, hl, t1, t2, t3⟩ := h.2.2 k hk
  have hbb := hb g hl (by rw [hA]; simp [OwnB])
  have hc : ∀ o, w'.cell? ⟨g, o, none⟩ = w.cell? ⟨g, o, none⟩ := fun o => by
    unfold World.cell?
    dsimp only
    rw [hbb]
  exact ⟨g, off, hA, Nat.lt_of_lt_of_le hl hs, by rw [hc]; exact t1, by rw [hc]; exact t2, by rw [hc]; exact t3⟩
/-- What others change. -/
theorem MaM.ch {κ : Nat → Nat} {i p g : Nat} {t : Nat → Nat} {w w' : World} {m : MaS} {q : TdS} {S : Nat → Prop} (h : MaM κ i p t w g m q) (hC : Ch S w w') (hS : ∀ b, b < w.heap.size → S b → κ b ≠ 1 ∧ κ b ≠ i + 2) : MaM κ i p t w' g m q := by
  obtain ⟨⟨A, c, h1, h2, h3⟩, kg, kd, td, rd⟩ := h
  refine ⟨⟨A, c, h1.keep (hC.block g h1.lt (fun hs => (hS g h1.lt hs).2 kg)), h2.keep hC.size (fun b hb ho => hC.block b hb (fun hs => (hS b hb hs).1 (h3 b ho))), h3⟩, kg, kd, td, fun k hk => ?_⟩
  obtain ⟨r1, r2, r3⟩ := rd k hk
  exact ⟨r1, r2, r3.keep (hC.block _ r3.lt (fun hs => (hS _ r3.lt hs).2 r1))⟩
/-- Roles of new blocks. -/
theorem MaM.role {κ κ' : Nat → Nat} {i p g : Nat} {t : Nat → Nat} {w : World} {m : MaS} {q : TdS} (h : MaM κ i p t w g m q) (hk : ∀ b, κ b ≠ 0 → κ' b = κ b) : MaM κ' i p t w g m q := by
  obtain ⟨⟨A, c, h1, h2, h3⟩, kg, kd, td, rd⟩ := h
  refine ⟨⟨A, c, h1, h2, fun b hb => by rw [hk b (by rw [h3 b hb]; omega)]; exact h3 b hb⟩, by rw [hk g (by omega)]; exact kg, kd, td, fun k hk2 => ?_⟩
  obtain ⟨r1, r2, r3⟩ := rd k hk2
  exact ⟨by rw [hk _ (by omega)]; exact r1, r2, r3⟩
theorem mcs_cells {w : World} {g : Nat} {m : MaS} {q : TdS} {A : Option Addr} {c : Nat} (h : CB w g 54 (mcs m q A c)) : w.cell? ⟨g, 0, none⟩ = some (opV m) ∧ w.cell? ⟨g, 1, none⟩ = some (rdP m) ∧ w.cell? ⟨g, 2, none⟩ = some (.bool q.es.isEmpty) ∧ w.cell? ⟨g, 3, none⟩ = some (.int .i64 q.word) ∧ w.cell? ⟨g, 4, none⟩ = some (.slice A q.es.length c) ∧ w.cell? ⟨g, 5, none⟩ = some (.int .i64 m.bg) ∧ w.cell? ⟨g, 6, none⟩ = some (.int .i64 m.en) ∧
    w.cell? ⟨g, 7, none⟩ = some (.bool m.ended) ∧ w.cell? ⟨g, 8, none⟩ = some (.bool m.ok) ∧ w.cell? ⟨g, 9, none⟩ = some (.int .u64 m.val) ∧ w.cell? ⟨g, 10, none⟩ = some (.bool m.on) ∧ w.cell? ⟨g, 11, none⟩ = some (.bool m.done) ∧ g < w.heap.size ∧ ∀ i, w.frozen? ⟨g, i, none⟩ = false :=
  ⟨h.cell 0, h.cell 1, h.cell 2, h.cell 3, h.cell 4, h.cell 5, h.cell 6, h.cell 7, h.cell 8, h.cell 9, h.cell 10, h.cell 11, h.lt, fun i => h.frozen i⟩
theorem mcs_now (m : MaS) (q : TdS) (A : Option Addr) (c at_ : Nat) : mcs (m.now at_) q A c = if m.on then mcs m q A c else ((mcs m q A c).setIfInBounds 10 (.bool true)).setIfInBounds 5 (.int .i64 at_) := by
  unfold MaS.now
  split
  · rfl
  · rfl
set_option maxRecDepth 100000 in
set_option maxHeartbeats 1000000 in
/-- A machine that is done stays. -/
theorem mcStepDone {κ : Nat → Nat} {i p g : Nat} {t : Nat → Nat} {w : World} {m : MaS} {q : TdS} (h : MaM κ i p t w g m q) (hd : m.done = true) (z : Int) :
    Calls Tryz.prog 28 #[.pointer (some ⟨g, 0, none⟩), .int .i64 z] w fun e w' => e = .returned (.tuple #[]) ∧ w = w' := by
  obtain ⟨⟨A, c, h1, _⟩, _⟩ := h
  obtain ⟨_, _, _, _, _, _, _, _, _, _, _, c11, hl, hf⟩ := mcs_cells h1
  rw [hd] at c11
  clear h1
  go_enter Tryz.func28, Tryz.ntmps28
  go_wp2
  exact bodyPost_ret (v := .tuple #[]) (by simp [results, Tryz.results28, go_sem]) rfl ⟨rfl, rfl⟩
end Go.Proofs.YtjaohgnloddgfaaGreatDoor

namespace Go.Proofs.YtjaohgnloddgfaaGreatDoor
open Go.RowKit
set_option linter.unusedVariables false
set_option linter.unusedSimpArgs false

theorem mcs_rdd (m : MaS) (q : TdS) (A : Option Addr) (c at_ : Nat) (r : RdS) (k : Nat) (hk : m.kd = .rd k) : mcs (m.rdd at_ r) q A c = if r.ended then ((((mcs (m.now at_) q A c).setIfInBounds 11 (.bool true)).setIfInBounds 6 (.int .i64 at_)).setIfInBounds 9 (.int .u64 (r.raw % 1099511627776))).setIfInBounds 7 (.bool true) else (mcs (m.now at_) q A c).setIfInBounds 11 (.bool false) := by
  obtain ⟨kd, blk, rs, bg, en, on, done, ended, ok, val⟩ := m
  obtain ⟨a1, a2, a3, a4, a5, a6⟩ := r
  dsimp only at hk
  subst hk
  cases on <;> cases a5 <;> rfl
def McPost (κ : Nat → Nat) (i p d : Nat) (t : Nat → Nat) (g : Nat) (q : TdS) (w : World) (σ' : PwS) (m' : MaS) (e : Ending) (w' : World) : Prop :=
  e = .returned (.tuple #[]) ∧ PMx (fun b => κ b ≠ 0) p d t 0 32 ((40 : Nat) * 64) w' σ' ∧ MaM κ i p t w' g m' q ∧ Ch (fun b => κ b = 0 ∨ κ b = i + 2) w w'
set_option maxRecDepth 100000 in
set_option maxHeartbeats 4000000 in
theorem mcRead {κ : Nat → Nat} {i p d g at_ k N : Nat} {t : Nat → Nat} {w : World} {σ : PwS} {m : MaS} {q : TdS} (H : PMx (fun b => κ b ≠ 0) p d t 0 32 ((40 : Nat) * 64) w σ) (h : MaM κ i p t w g m q) (hk : m.kd = .rd k) (hd : m.done = false)
    (hcu : ∀ c, σ.cur = some c → ∃ oc, σ.ops c = some oc ∧ oc.seen.length = oc.es.length ∧ oc.es.length ≤ 100000) (hth : m.rs.th < 8) (ho : 0 ≤ m.rs.off ∧ m.rs.off < 18446744073709551616) (hG : Good σ.dev N) (hN : N < 1000000) (hp : m.rs.place ≤ 2)
    (hv : m.rs.place = 0 → 0 ≤ σ.dev.load m.rs.off ∧ σ.dev.load m.rs.off < 4611686018427387904) (he0 : (σ.rstep m.rs).2.err = 0) (hraw : 0 ≤ (σ.rstep m.rs).2.raw ∧ (σ.rstep m.rs).2.raw < 18446744073709551616) (hrth : (σ.rstep m.rs).2.th = m.rs.th) :
    Calls Tryz.prog 28 #[.pointer (some ⟨g, 0, none⟩), .int .i64 (at_ : Int)] w (McPost κ i p d t g q w (σ.rstep m.rs).1 (m.rdd at_ (σ.rstep m.rs).2)) := by
  obtain ⟨⟨A, c, h1, hE, hA1⟩, kg, kd, td, rd⟩ := h
  obtain ⟨r1, r2, r3⟩ := rd k hk
  have hKg : κ g ≠ 0 := by omega
  have hKb : κ m.blk ≠ 0 := by omega
  have HRS : Hid (∀ W, Ch (At g) w W → Calls Tryz.prog 32 #[.pointer (some ⟨m.blk, 0, none⟩)] W fun e w' => e = .returned (.bool (σ.rstep m.rs).2.ended) ∧ PMx (fun b => κ b ≠ 0) p d t 0 32 ((40 : Nat) * 64) w' (σ.rstep m.rs).1 ∧ CB w' m.blk 130 (rdcells (.pointer (some ⟨p, 0, none⟩)) (.pointer (some ⟨t m.rs.th, 0, none⟩)) (σ.rstep m.rs).2) ∧ Ch (fun b => κ b = 0 ∨ b = m.blk) W w') := fun W hW => by
    have H2 := H.chK hW (fun b _ hb => by rw [show b = g from hb]; exact hKg)
    have hC2 := r3.keep (hW.block _ r3.lt (fun hx => r2 hx))
    refine (rdStep H2 hKb hC2 hcu hth ho hG hN hp hv).mono ?_
    rintro e w' ⟨rfl, hP, hC, hCh⟩
    exact ⟨rfl, hP, hC, hCh.mono (fun b hb _ => hb.imp_left (fun hx => by simpa using hx))⟩
  have HRV : Hid (∀ W, CB W m.blk 130 (rdcells (.pointer (some ⟨p, 0, none⟩)) (.pointer (some ⟨t m.rs.th, 0, none⟩)) (σ.rstep m.rs).2) → Calls Tryz.prog 19 #[.pointer (some ⟨m.blk, 0, none⟩)] W fun x w' => x = .returned (σ.rstep m.rs).2.val ∧ Below W.heap.size W w') := fun W hW => rdValue W hW hraw
  have hop : opV m = .pointer none := by unfold opV; rw [hk]
  have hrp : rdP m = .pointer (some ⟨m.blk, 0, none⟩) := by unfold rdP; rw [hk]
  obtain ⟨c0, c1, c2, c3, c4, c5, c6, c7, c8, c9, c10, c11, hl, hf⟩ := mcs_cells h1
  rw [hop] at c0
  rw [hrp] at c1
  rw [hd] at c11
  have HNOW := Lib.hid (mcs_now m q A c at_)
  have H1 := Lib.hid h1
  have HFIN : Hid (∀ (w2 : World) (A' : Option Addr) (c' : Nat), CB w2 g 54 (mcs (m.rdd at_ (σ.rstep m.rs).2) q A c) → PMx (fun b => κ b ≠ 0) p d t 0 32 ((40 : Nat) * 64) w2 (σ.rstep m.rs).1 → CB w2 m.blk 130 (rdcells (.pointer (some ⟨p, 0, none⟩)) (.pointer (some ⟨t m.rs.th, 0, none⟩)) (σ.rstep m.rs).2) → Ch (fun b => κ b = 0 ∨ κ b = i + 2) w w2 → McPost κ i p d t g q w (σ.rstep m.rs).1 (m.rdd at_ (σ.rstep m.rs).2) (.returned (.tuple #[])) w2) := by
    intro w2 A' c' x1 x2 x3 x4
    have hkd : (m.rdd at_ (σ.rstep m.rs).2).kd = m.kd := (m.now_same at_).1
    have hbk : (m.rdd at_ (σ.rstep m.rs).2).blk = m.blk := (m.now_same at_).2.1
    refine ⟨rfl, x2, ⟨⟨A, c, x1, hE.keep x4.size (fun b hb ho => x4.block b hb (fun hx => by have := hA1 b ho; omega)), hA1⟩, kg, by rw [hkd]; exact kd, td, fun k2 hk2 => ?_⟩, x4⟩
    rw [hbk]
    refine ⟨r1, r2, ?_⟩
    show CB w2 m.blk 130 (rdcells _ (.pointer (some ⟨t (σ.rstep m.rs).2.th, 0, none⟩)) (σ.rstep m.rs).2)
    rw [hrth]; exact x3
  have HRD : Hid (mcs (m.rdd at_ (σ.rstep m.rs).2) q A c = if (σ.rstep m.rs).2.ended then ((((mcs (m.now at_) q A c).setIfInBounds 11 (.bool true)).setIfInBounds 6 (.int .i64 at_)).setIfInBounds 9 (.int .u64 ((σ.rstep m.rs).2.raw % 1099511627776))).setIfInBounds 7 (.bool true) else (mcs (m.now at_) q A c).setIfInBounds 11 (.bool false)) := by
    exact mcs_rdd m q A c at_ _ k hk
  have HVAL : Hid ((σ.rstep m.rs).2.ended = true → (σ.rstep m.rs).2.val = .tuple #[.int .u64 ((σ.rstep m.rs).2.raw % 1099511627776), .int .i64 0]) := fun hx => by
    unfold RdS.val; rw [hx, he0]; rfl
  have HRDN : Hid (rdP (m.now at_) = .pointer (some ⟨m.blk, 0, none⟩)) := by show _ = _; unfold rdP; rw [(m.now_same at_).1, (m.now_same at_).2.1, hk]
  have HKX : Hid (κ g = i + 2 ∧ κ m.blk = i + 2 ∧ m.blk ≠ g) := ⟨kg, r1, r2⟩
  obtain ⟨bk, hbk⟩ : ∃ bk, m.blk = bk := ⟨_, rfl⟩
  obtain ⟨σ', hσ'⟩ : ∃ σ', (σ.rstep m.rs).1 = σ' := ⟨_, rfl⟩
  obtain ⟨r', hr'⟩ : ∃ r', (σ.rstep m.rs).2 = r' := ⟨_, rfl⟩
  obtain ⟨th, hth2⟩ : ∃ th, m.rs.th = th := ⟨_, rfl⟩
  obtain ⟨m', hm'⟩ : ∃ m', m.rdd at_ r' = m' := ⟨_, rfl⟩
  rw [hbk] at HRS HRV HFIN c1 HKX HRDN
  rw [hσ'] at HRS HFIN ⊢
  rw [hr'] at HRS HRV HFIN HRD HVAL ⊢
  rw [hth2] at HRS HRV HFIN
  rw [hm'] at HFIN HRD ⊢
  obtain ⟨ed, hed⟩ : ∃ ed, r'.ended = ed := ⟨_, rfl⟩
  obtain ⟨raw, hrw⟩ : ∃ raw, r'.raw % 1099511627776 = raw := ⟨_, rfl⟩
  rw [hed] at HRS HRD HVAL
  rw [hrw] at HRD HVAL
  obtain ⟨vl, hvl⟩ : ∃ vl, r'.val = vl := ⟨_, rfl⟩
  rw [hvl] at HRV HVAL
  have f0 := hf 11
  have f1 := hf 10
  have f2 := hf 5
  clear H h1 hE hA1 kg kd td rd r1 r2 r3 hKg hKb hcu hth ho hG hN hp hv he0 hraw hrth hk hop hrp hbk hσ' hr' hth2 hm' hed hrw hvl hd hf
  suffices hs : ∀ v, v = w → Calls Tryz.prog 28 #[.pointer (some ⟨g, 0, none⟩), .int .i64 (at_ : Int)] w (McPost κ i p d t g q v σ' m') from hs w rfl
  intro v hv
  have HV : Hid (Ch (At g) v w) := by rw [hv]; exact Ch.refl _ _
  rw [← hv] at HRS HFIN
  clear hv
  cases hon : m.on with
  | false =>
    rw [hon] at c10 HNOW
    go_enter Tryz.func28, Tryz.ntmps28
    go_upto_region 4 with (fail)
    have HC1 : Hid (CB ((w.setCell ⟨g, 10, none⟩ (.bool true)).setCell ⟨g, 5, none⟩ (.int .i64 at_)) g 54 (mcs (m.now at_) q A c)) := by rw [HNOW.out]; exact (H1.out.set 10 _).set 5 _
    have HH1 : Hid (Ch (At g) v ((w.setCell ⟨g, 10, none⟩ (.bool true)).setCell ⟨g, 5, none⟩ (.int .i64 at_))) := (HV.out.set1 _ _).set1 _ _
    have y0 := (mcs_cells HC1.out).2.1
    obtain ⟨W1, hW1⟩ : ∃ W1, ((w.setCell ⟨g, 10, none⟩ (.bool true)).setCell ⟨g, 5, none⟩ (.int .i64 at_)) = W1 := ⟨_, rfl⟩
    rw [hW1] at HC1 HH1 y0 ⊢
    have y1 : W1.cell? ⟨g, 1, none⟩ = some (.pointer (some ⟨bk, 0, none⟩)) := (HC1.out.cell 1).trans (show some (rdP (m.now at_)) = _ by rw [HRDN.out])
    have hl1 : g < W1.heap.size := HC1.out.lt
    clear hW1 y0 c0 c1 c2 c3 c4 c5 c6 c7 c8 c9 c10 c11 hl f0 f1 f2
    go_upto_region 6 with (go_at_call 32; refine (HRS.out _ HH1.out).mono ?_; rintro e w2 ⟨rfl, hP, hC, hCh⟩; have HP2 := Lib.hid hP; have HC2 := Lib.hid hC; have HH2 := Lib.hid hCh; have hgb2 : w2.heap[g]? = W1.heap[g]? := hCh.block g hl1 (fun hx => by have := HKX.out; omega); have HG2 : Hid (CB w2 g 54 (mcs (m.now at_) q A c)) := HC1.out.keep hgb2; have z11 := (mcs_cells HG2.out).2.2.2.2.2.2.2.2.2.2.2.1; have zf := (mcs_cells HG2.out).2.2.2.2.2.2.2.2.2.2.2.2.2 11; have hl2 : g < w2.heap.size := HG2.out.lt; clear hP hC hCh hgb2)
    have HG3 : Hid (CB (w2.setCell ⟨g, 11, none⟩ (.bool ed)) g 54 ((mcs (m.now at_) q A c).setIfInBounds 11 (.bool ed))) := HG2.out.set 11 _
    have HHX : Hid (Ch (fun b => κ b = 0 ∨ κ b = i + 2) v (w2.setCell ⟨g, 11, none⟩ (.bool ed))) := by
      refine ((HH1.out.mono (fun b hb _ => .inr (by rw [show b = g from hb]; exact HKX.out.1))).trans HH2.out (fun b hb _ => hb.imp_right (fun hx => by rw [hx]; exact HKX.out.2.1))).trans ((Ch.refl _ _).set1 11 (.bool ed)) (fun b hb _ => .inr (by rw [show b = g from hb]; exact HKX.out.1))
    have HP3 : Hid (PMx (fun b => κ b ≠ 0) p d t 0 32 ((40 : Nat) * 64) (w2.setCell ⟨g, 11, none⟩ (.bool ed)) σ') := HP2.out.chK ((Ch.refl _ _).set1 11 (.bool ed)) (fun b _ hb => by rw [show b = g from hb]; have := HKX.out.1; omega)
    have HC3 : Hid (CB (w2.setCell ⟨g, 11, none⟩ (.bool ed)) bk 130 (rdcells (.pointer (some ⟨p, 0, none⟩)) (.pointer (some ⟨t th, 0, none⟩)) r')) := HC2.out.keep (Below.heap_setCell _ _ _ _ HKX.out.2.2)
    have z0 : (w2.setCell ⟨g, 11, none⟩ (.bool ed)).cell? ⟨g, 1, none⟩ = some (.pointer (some ⟨bk, 0, none⟩)) := (HG3.out.cell 1).trans (show some (rdP (m.now at_)) = _ by rw [HRDN.out])
    have z1 : (w2.setCell ⟨g, 11, none⟩ (.bool ed)).cell? ⟨g, 11, none⟩ = some (.bool ed) := (HG3.out.cell 11).trans rfl
    have z6 : ∃ v, (w2.setCell ⟨g, 11, none⟩ (.bool ed)).cell? ⟨g, 6, none⟩ = some v := ⟨.int .i64 (m.now at_).en, (HG3.out.cell 6).trans rfl⟩
    have z7 : ∃ v, (w2.setCell ⟨g, 11, none⟩ (.bool ed)).cell? ⟨g, 7, none⟩ = some v := ⟨.bool (m.now at_).ended, (HG3.out.cell 7).trans rfl⟩
    have z9 : ∃ v, (w2.setCell ⟨g, 11, none⟩ (.bool ed)).cell? ⟨g, 9, none⟩ = some v := ⟨.int .u64 (m.now at_).val, (HG3.out.cell 9).trans rfl⟩
    have g6 := HG3.out.frozen 6
    have g7 := HG3.out.frozen 7
    have g9 := HG3.out.frozen 9
    have hl3 : g < (w2.setCell ⟨g, 11, none⟩ (.bool ed)).heap.size := HG3.out.lt
    obtain ⟨W3, hW3⟩ : ∃ W3, w2.setCell ⟨g, 11, none⟩ (.bool ed) = W3 := ⟨_, rfl⟩
    rw [hW3] at HG3 HHX HP3 HC3 z0 z1 z6 z7 z9 g6 g7 g9 hl3 ⊢
    obtain ⟨v6, z6⟩ := z6
    obtain ⟨v7, z7⟩ := z7
    obtain ⟨v9, z9⟩ := z9
    clear hW3 z11 zf hl2 HG2 HH2 HP2 HC2 HC1 HH1 y1 hl1 HRS
    cases ed with
    | false =>
      go_wp2
      exact bodyPost_ret (v := .tuple #[]) (by simp [results, Tryz.results28, go_sem]) rfl (HFIN.out W3 none 0 (by rw [HRD.out, if_neg (by simp)]; exact HG3.out) HP3.out HC3.out HHX.out)
    | true =>
      have hvl := HVAL.out rfl
      subst hvl
      go_upto_region 9 with (fail)
      have HG4 : Hid (CB (W3.setCell ⟨g, 6, none⟩ (.int .i64 at_)) g 54 (((mcs (m.now at_) q A c).setIfInBounds 11 (.bool true)).setIfInBounds 6 (.int .i64 at_))) := HG3.out.set 6 _
      have HC4 : Hid (CB (W3.setCell ⟨g, 6, none⟩ (.int .i64 at_)) bk 130 (rdcells (.pointer (some ⟨p, 0, none⟩)) (.pointer (some ⟨t th, 0, none⟩)) r')) := HC3.out.keep (Below.heap_setCell _ _ _ _ HKX.out.2.2)
      have HH4 : Hid (Ch (fun b => κ b = 0 ∨ κ b = i + 2) v (W3.setCell ⟨g, 6, none⟩ (.int .i64 at_))) := HHX.out.trans ((Ch.refl _ _).set1 6 (.int .i64 at_)) (fun b hb _ => .inr (by rw [show b = g from hb]; exact HKX.out.1))
      have HP4 : Hid (PMx (fun b => κ b ≠ 0) p d t 0 32 ((40 : Nat) * 64) (W3.setCell ⟨g, 6, none⟩ (.int .i64 at_)) σ') := HP3.out.chK ((Ch.refl _ _).set1 6 (.int .i64 at_)) (fun b _ hb => by rw [show b = g from hb]; have := HKX.out.1; omega)
      obtain ⟨W4, hW4⟩ : ∃ W4, W3.setCell ⟨g, 6, none⟩ (.int .i64 at_) = W4 := ⟨_, rfl⟩
      have x1 : W4.cell? ⟨g, 1, none⟩ = some (.pointer (some ⟨bk, 0, none⟩)) := by rw [← hW4]; exact (HG4.out.cell 1).trans (show some (rdP (m.now at_)) = _ by rw [HRDN.out])
      have x7 : W4.cell? ⟨g, 7, none⟩ = some v7 := by rw [← hW4]; simpa [go_sem] using z7
      have x9 : W4.cell? ⟨g, 9, none⟩ = some v9 := by rw [← hW4]; simpa [go_sem] using z9
      rw [hW4] at HG4 HC4 HH4 HP4 ⊢
      have k7 := HG4.out.frozen 7
      have k9 := HG4.out.frozen 9
      have hl4 := HG4.out.lt
      clear hW4 z0 z1 z6 z7 z9 g6 g7 g9 hl3 HG3 HHX HP3 HC3
      go_wp2_with (go_at_call 19; refine (HRV.out _ HC4.out).mono ?_; rintro e w' ⟨rfl, hb⟩; obtain ⟨x, rfl⟩ := bx_of hb; clear hb)
      have HG5 := (HG4.out.keep (x.below.block g hl4)).set 9 (.int .u64 raw) |>.set 7 (.bool true)
      have HX5 : Ch (At g) x.w ((x.w.setCell ⟨g, 9, none⟩ (.int .u64 raw)).setCell ⟨g, 7, none⟩ (.bool true)) := ((Ch.refl _ _).set1 _ _).set1 _ _
      refine bodyPost_ret (v := .tuple #[]) (by simp [results, Tryz.results28, go_sem]) rfl (HFIN.out _ none 0 ?_ ?_ ?_ ?_)
      · rw [HRD.out]; first | rw [if_pos rfl] | rw [if_pos trivial]
        exact HG5
      · exact (HP4.out.bl0 x.below).chK HX5 (fun b _ hb => by rw [show b = g from hb]; have := HKX.out.1; omega)
      · exact (HC4.out.bx x).keep ((Below.heap_setCell _ _ _ _ HKX.out.2.2).trans (Below.heap_setCell _ _ _ _ HKX.out.2.2))
      · exact (HH4.out.trans (Ch.of_below (S := fun _ => False) x.below) (fun b hb _ => hb.elim)).trans HX5 (fun b hb _ => .inr (by rw [show b = g from hb]; exact HKX.out.1))
  | true =>
    rw [hon] at c10 HNOW
    go_enter Tryz.func28, Tryz.ntmps28
    go_upto_region 4 with (fail)
    have HC1 : Hid (CB w g 54 (mcs (m.now at_) q A c)) := by rw [HNOW.out]; exact H1.out
    have HH1 : Hid (Ch (At g) v w) := HV.out
    have y0 := (mcs_cells HC1.out).2.1
    obtain ⟨W1, hW1⟩ : ∃ W1, w = W1 := ⟨_, rfl⟩
    rw [hW1] at HC1 HH1 y0 ⊢
    have y1 : W1.cell? ⟨g, 1, none⟩ = some (.pointer (some ⟨bk, 0, none⟩)) := (HC1.out.cell 1).trans (show some (rdP (m.now at_)) = _ by rw [HRDN.out])
    have hl1 : g < W1.heap.size := HC1.out.lt
    clear hW1 y0 c0 c1 c2 c3 c4 c5 c6 c7 c8 c9 c10 c11 hl f0 f1 f2
    go_upto_region 6 with (go_at_call 32; refine (HRS.out _ HH1.out).mono ?_; rintro e w2 ⟨rfl, hP, hC, hCh⟩; have HP2 := Lib.hid hP; have HC2 := Lib.hid hC; have HH2 := Lib.hid hCh; have hgb2 : w2.heap[g]? = W1.heap[g]? := hCh.block g hl1 (fun hx => by have := HKX.out; omega); have HG2 : Hid (CB w2 g 54 (mcs (m.now at_) q A c)) := HC1.out.keep hgb2; have z11 := (mcs_cells HG2.out).2.2.2.2.2.2.2.2.2.2.2.1; have zf := (mcs_cells HG2.out).2.2.2.2.2.2.2.2.2.2.2.2.2 11; have hl2 : g < w2.heap.size := HG2.out.lt; clear hP hC hCh hgb2)
    have HG3 : Hid (CB (w2.setCell ⟨g, 11, none⟩ (.bool ed)) g 54 ((mcs (m.now at_) q A c).setIfInBounds 11 (.bool ed))) := HG2.out.set 11 _
    have HHX : Hid (Ch (fun b => κ b = 0 ∨ κ b = i + 2) v (w2.setCell ⟨g, 11, none⟩ (.bool ed))) := by
      refine ((HH1.out.mono (fun b hb _ => .inr (by rw [show b = g from hb]; exact HKX.out.1))).trans HH2.out (fun b hb _ => hb.imp_right (fun hx => by rw [hx]; exact HKX.out.2.1))).trans ((Ch.refl _ _).set1 11 (.bool ed)) (fun b hb _ => .inr (by rw [show b = g from hb]; exact HKX.out.1))
    have HP3 : Hid (PMx (fun b => κ b ≠ 0) p d t 0 32 ((40 : Nat) * 64) (w2.setCell ⟨g, 11, none⟩ (.bool ed)) σ') := HP2.out.chK ((Ch.refl _ _).set1 11 (.bool ed)) (fun b _ hb => by rw [show b = g from hb]; have := HKX.out.1; omega)
    have HC3 : Hid (CB (w2.setCell ⟨g, 11, none⟩ (.bool ed)) bk 130 (rdcells (.pointer (some ⟨p, 0, none⟩)) (.pointer (some ⟨t th, 0, none⟩)) r')) := HC2.out.keep (Below.heap_setCell _ _ _ _ HKX.out.2.2)
    have z0 : (w2.setCell ⟨g, 11, none⟩ (.bool ed)).cell? ⟨g, 1, none⟩ = some (.pointer (some ⟨bk, 0, none⟩)) := (HG3.out.cell 1).trans (show some (rdP (m.now at_)) = _ by rw [HRDN.out])
    have z1 : (w2.setCell ⟨g, 11, none⟩ (.bool ed)).cell? ⟨g, 11, none⟩ = some (.bool ed) := (HG3.out.cell 11).trans rfl
    have z6 : ∃ v, (w2.setCell ⟨g, 11, none⟩ (.bool ed)).cell? ⟨g, 6, none⟩ = some v := ⟨.int .i64 (m.now at_).en, (HG3.out.cell 6).trans rfl⟩
    have z7 : ∃ v, (w2.setCell ⟨g, 11, none⟩ (.bool ed)).cell? ⟨g, 7, none⟩ = some v := ⟨.bool (m.now at_).ended, (HG3.out.cell 7).trans rfl⟩
    have z9 : ∃ v, (w2.setCell ⟨g, 11, none⟩ (.bool ed)).cell? ⟨g, 9, none⟩ = some v := ⟨.int .u64 (m.now at_).val, (HG3.out.cell 9).trans rfl⟩
    have g6 := HG3.out.frozen 6
    have g7 := HG3.out.frozen 7
    have g9 := HG3.out.frozen 9
    have hl3 : g < (w2.setCell ⟨g, 11, none⟩ (.bool ed)).heap.size := HG3.out.lt
    obtain ⟨W3, hW3⟩ : ∃ W3, w2.setCell ⟨g, 11, none⟩ (.bool ed) = W3 := ⟨_, rfl⟩
    rw [hW3] at HG3 HHX HP3 HC3 z0 z1 z6 z7 z9 g6 g7 g9 hl3 ⊢
    obtain ⟨v6, z6⟩ := z6
    obtain ⟨v7, z7⟩ := z7
    obtain ⟨v9, z9⟩ := z9
    clear hW3 z11 zf hl2 HG2 HH2 HP2 HC2 HC1 HH1 y1 hl1 HRS
    cases ed with
    | false =>
      go_wp2
      exact bodyPost_ret (v := .tuple #[]) (by simp [results, Tryz.results28, go_sem]) rfl (HFIN.out W3 none 0 (by rw [HRD.out, if_neg (by simp)]; exact HG3.out) HP3.out HC3.out HHX.out)
    | true =>
      have hvl := HVAL.out rfl
      subst hvl
      go_upto_region 9 with (fail)
      have HG4 : Hid (CB (W3.setCell ⟨g, 6, none⟩ (.int .i64 at_)) g 54 (((mcs (m.now at_) q A c).setIfInBounds 11 (.bool true)).setIfInBounds 6 (.int .i64 at_))) := HG3.out.set 6 _
      have HC4 : Hid (CB (W3.setCell ⟨g, 6, none⟩ (.int .i64 at_)) bk 130 (rdcells (.pointer (some ⟨p, 0, none⟩)) (.pointer (some ⟨t th, 0, none⟩)) r')) := HC3.out.keep (Below.heap_setCell _ _ _ _ HKX.out.2.2)
      have HH4 : Hid (Ch (fun b => κ b = 0 ∨ κ b = i + 2) v (W3.setCell ⟨g, 6, none⟩ (.int .i64 at_))) := HHX.out.trans ((Ch.refl _ _).set1 6 (.int .i64 at_)) (fun b hb _ => .inr (by rw [show b = g from hb]; exact HKX.out.1))
      have HP4 : Hid (PMx (fun b => κ b ≠ 0) p d t 0 32 ((40 : Nat) * 64) (W3.setCell ⟨g, 6, none⟩ (.int .i64 at_)) σ') := HP3.out.chK ((Ch.refl _ _).set1 6 (.int .i64 at_)) (fun b _ hb => by rw [show b = g from hb]; have := HKX.out.1; omega)
      obtain ⟨W4, hW4⟩ : ∃ W4, W3.setCell ⟨g, 6, none⟩ (.int .i64 at_) = W4 := ⟨_, rfl⟩
      have x1 : W4.cell? ⟨g, 1, none⟩ = some (.pointer (some ⟨bk, 0, none⟩)) := by rw [← hW4]; exact (HG4.out.cell 1).trans (show some (rdP (m.now at_)) = _ by rw [HRDN.out])
      have x7 : W4.cell? ⟨g, 7, none⟩ = some v7 := by rw [← hW4]; simpa [go_sem] using z7
      have x9 : W4.cell? ⟨g, 9, none⟩ = some v9 := by rw [← hW4]; simpa [go_sem] using z9
      rw [hW4] at HG4 HC4 HH4 HP4 ⊢
      have k7 := HG4.out.frozen 7
      have k9 := HG4.out.frozen 9
      have hl4 := HG4.out.lt
      clear hW4 z0 z1 z6 z7 z9 g6 g7 g9 hl3 HG3 HHX HP3 HC3
      go_wp2_with (go_at_call 19; refine (HRV.out _ HC4.out).mono ?_; rintro e w' ⟨rfl, hb⟩; obtain ⟨x, rfl⟩ := bx_of hb; clear hb)
      have HG5 := (HG4.out.keep (x.below.block g hl4)).set 9 (.int .u64 raw) |>.set 7 (.bool true)
      have HX5 : Ch (At g) x.w ((x.w.setCell ⟨g, 9, none⟩ (.int .u64 raw)).setCell ⟨g, 7, none⟩ (.bool true)) := ((Ch.refl _ _).set1 _ _).set1 _ _
      refine bodyPost_ret (v := .tuple #[]) (by simp [results, Tryz.results28, go_sem]) rfl (HFIN.out _ none 0 ?_ ?_ ?_ ?_)
      · rw [HRD.out]; first | rw [if_pos rfl] | rw [if_pos trivial]
        exact HG5
      · exact (HP4.out.bl0 x.below).chK HX5 (fun b _ hb => by rw [show b = g from hb]; have := HKX.out.1; omega)
      · exact (HC4.out.bx x).keep ((Below.heap_setCell _ _ _ _ HKX.out.2.2).trans (Below.heap_setCell _ _ _ _ HKX.out.2.2))
      · exact (HH4.out.trans (Ch.of_below (S := fun _ => False) x.below) (fun b hb _ => hb.elim)).trans HX5 (fun b hb _ => .inr (by rw [show b = g from hb]; exact HKX.out.1))
end Go.Proofs.YtjaohgnloddgfaaGreatDoor

namespace Go.Proofs.YtjaohgnloddgfaaGreatDoor
open Go.RowKit
set_option linter.unusedVariables false
set_option linter.unusedSimpArgs false

theorem mcs_opd (m : MaS) (q : TdS) (A : Option Addr) (c at_ : Nat) (b ch : Bool) (es : List Ent) (hk : m.kd = .op es) : mcs (m.opd at_ b ch) q A c = if b then ((((mcs (m.now at_) q A c).setIfInBounds 11 (.bool true)).setIfInBounds 6 (.int .i64 at_)).setIfInBounds 8 (.bool ch)).setIfInBounds 7 (.bool true) else (mcs (m.now at_) q A c).setIfInBounds 11 (.bool false) := by
  obtain ⟨kd, blk, rs, bg, en, on, done, ended, ok, val⟩ := m
  dsimp only at hk
  subst hk
  cases on <;> cases b <;> rfl
theorem PMx.okErr {K : Nat → Prop} {p d a : Nat} {t : Nat → Nat} {w : World} {σ : PwS} {o : OpS} (H : PMx K p d t 0 32 ((40 : Nat) * 64) w σ) (ho : σ.ops a = some o) :
    (Calls Tryz.prog 22 #[.pointer (some ⟨a, 0, none⟩)] w fun e w' => e = .returned (.bool (o.ended && (decide (o.err = 0) && o.changed))) ∧ Below w.heap.size w w') ∧ Calls Tryz.prog 34 #[.pointer (some ⟨a, 0, none⟩)] w fun e w' => e = .returned (.int .i64 o.err) ∧ Below w.heap.size w w' := by
  obtain ⟨role, bb, h, hK⟩ := H
  exact ⟨opOK (h.op a o ho), opErr (h.op a o ho)⟩
set_option maxRecDepth 100000 in
set_option maxHeartbeats 8000000 in
theorem mcOper {κ : Nat → Nat} {i p d g at_ N : Nat} {t : Nat → Nat} {w : World} {σ σ' : PwS} {m : MaS} {q : TdS} {es : List Ent} {xs : List Int} {L : Nat → Int} {o o' : OpS} {b : Bool} (H : PMx (fun b => κ b ≠ 0) p d t 0 32 ((40 : Nat) * 64) w σ) (h : MaM κ i p t w g m q) (hk : m.kd = .op es) (hd : m.done = false)
    (hT : Tab w) (hK0 : κ 0 = 1) (hI : Inv sumI (atW 0) 40 8 M17 N σ xs L) (hN : N < 1000000) (hEn : EnvOk 0 40 8 2304 σ) (hoo : σ.ops m.blk = some o) (hst : σ.step sumI (atW 0) m.blk = (σ', b)) (ho' : σ'.ops m.blk = some o') (hen : o'.ended = b) (herr : b = true → o'.err = 0) :
    Calls Tryz.prog 28 #[.pointer (some ⟨g, 0, none⟩), .int .i64 (at_ : Int)] w (McPost κ i p d t g q w σ' (m.opd at_ b o'.changed)) := by
  obtain ⟨⟨A, c, h1, hE, hA1⟩, kg, kd, td, rd⟩ := h
  have hKg : κ g ≠ 0 := by omega
  have HOS : Hid (∀ W, Ch (At g) w W → Calls Tryz.prog 33 #[.pointer (some ⟨m.blk, 0, none⟩)] W fun e w' => e = .returned (.bool b) ∧ PMx (fun b => κ b ≠ 0) p d t 0 32 ((40 : Nat) * 64) w' σ' ∧ Ch (fun b => κ b = 0) W w') := fun W hW => by
    have H2 := H.chK hW (fun b _ hb => by rw [show b = g from hb]; exact hKg)
    refine (opStep H2 (by show κ 0 ≠ 0; omega) (hT.ch hW (fun hx => by have : 0 = g := hx; rw [← this] at kg; omega)) hI reg17 hN hEn hoo).mono ?_
    rw [hst]
    rintro e w' ⟨rfl, hP, hCh⟩
    exact ⟨rfl, hP, hCh.mono (fun b hb _ => by simpa using hb)⟩
  have HOE : Hid (∀ W, PMx (fun b => κ b ≠ 0) p d t 0 32 ((40 : Nat) * 64) W σ' → (Calls Tryz.prog 22 #[.pointer (some ⟨m.blk, 0, none⟩)] W fun e w' => e = .returned (.bool (b && (decide (o'.err = 0) && o'.changed))) ∧ Below W.heap.size W w') ∧ Calls Tryz.prog 34 #[.pointer (some ⟨m.blk, 0, none⟩)] W fun e w' => e = .returned (.int .i64 o'.err) ∧ Below W.heap.size W w') := fun W hW => by rw [← hen]; exact hW.okErr ho'
  have hop : opV m = .pointer (some ⟨m.blk, 0, none⟩) := by unfold opV; rw [hk]
  have hrp : rdP m = .pointer none := by unfold rdP; rw [hk]
  obtain ⟨c0, c1, c2, c3, c4, c5, c6, c7, c8, c9, c10, c11, hl, hf⟩ := mcs_cells h1
  rw [hop] at c0
  rw [hrp] at c1
  rw [hd] at c11
  have HNOW := Lib.hid (mcs_now m q A c at_)
  have H1 := Lib.hid h1
  have HFIN : Hid (∀ (w2 : World), CB w2 g 54 (mcs (m.opd at_ b o'.changed) q A c) → PMx (fun b => κ b ≠ 0) p d t 0 32 ((40 : Nat) * 64) w2 σ' → Ch (fun b => κ b = 0 ∨ κ b = i + 2) w w2 → McPost κ i p d t g q w σ' (m.opd at_ b o'.changed) (.returned (.tuple #[])) w2) := by
    intro w2 x1 x2 x4
    have hkd : (m.opd at_ b o'.changed).kd = m.kd := (m.now_same at_).1
    refine ⟨rfl, x2, ⟨⟨A, c, x1, hE.keep x4.size (fun b hb ho => x4.block b hb (fun hx => by have := hA1 b ho; omega)), hA1⟩, kg, by rw [hkd]; exact kd, td, fun k2 hk2 => by rw [hkd, hk] at hk2; cases hk2⟩, x4⟩
  have HRD : Hid (mcs (m.opd at_ b o'.changed) q A c = if b then ((((mcs (m.now at_) q A c).setIfInBounds 11 (.bool true)).setIfInBounds 6 (.int .i64 at_)).setIfInBounds 8 (.bool o'.changed)).setIfInBounds 7 (.bool true) else (mcs (m.now at_) q A c).setIfInBounds 11 (.bool false)) := mcs_opd m q A c at_ b _ es hk
  have HRDN : Hid (rdP (m.now at_) = .pointer none) := by show _ = _; unfold rdP; rw [(m.now_same at_).1, hk]
  have HOPN : Hid (opV (m.now at_) = .pointer (some ⟨m.blk, 0, none⟩)) := by show _ = _; unfold opV; rw [(m.now_same at_).1, (m.now_same at_).2.1, hk]
  have HKX : Hid (κ g = i + 2) := kg
  have HER := Lib.hid herr
  obtain ⟨bk, hbk⟩ : ∃ bk, m.blk = bk := ⟨_, rfl⟩
  obtain ⟨chg, hch⟩ : ∃ chg, o'.changed = chg := ⟨_, rfl⟩
  obtain ⟨er, her⟩ : ∃ er, o'.err = er := ⟨_, rfl⟩
  rw [hbk] at HOS HOE c0 HOPN
  rw [hch] at HOE HRD HFIN ⊢
  rw [her] at HOE HER
  obtain ⟨m', hm'⟩ : ∃ m', m.opd at_ b chg = m' := ⟨_, rfl⟩
  rw [hm'] at HFIN HRD ⊢
  have f0 := hf 11
  have f1 := hf 10
  have f2 := hf 5
  clear H h1 hE hA1 kg kd td rd hKg hk hop hrp hbk hm' hd hf hT hK0 hI hN hEn hoo hst ho' hen herr hch her
  suffices hs : ∀ v, v = w → Calls Tryz.prog 28 #[.pointer (some ⟨g, 0, none⟩), .int .i64 (at_ : Int)] w (McPost κ i p d t g q v σ' m') from hs w rfl
  intro v hv
  have HV : Hid (Ch (At g) v w) := by rw [hv]; exact Ch.refl _ _
  rw [← hv] at HOS HFIN
  clear hv
  cases hon : m.on with
  | false =>
    rw [hon] at c10 HNOW
    go_enter Tryz.func28, Tryz.ntmps28
    go_upto_region 5 with (fail)
    have HC1 : Hid (CB ((w.setCell ⟨g, 10, none⟩ (.bool true)).setCell ⟨g, 5, none⟩ (.int .i64 at_)) g 54 (mcs (m.now at_) q A c)) := by rw [HNOW.out]; exact (H1.out.set 10 _).set 5 _
    have HH1 : Hid (Ch (At g) v ((w.setCell ⟨g, 10, none⟩ (.bool true)).setCell ⟨g, 5, none⟩ (.int .i64 at_))) := (HV.out.set1 _ _).set1 _ _
    obtain ⟨W1, hW1⟩ : ∃ W1, ((w.setCell ⟨g, 10, none⟩ (.bool true)).setCell ⟨g, 5, none⟩ (.int .i64 at_)) = W1 := ⟨_, rfl⟩
    rw [hW1] at HC1 HH1 ⊢
    have y1 : W1.cell? ⟨g, 0, none⟩ = some (.pointer (some ⟨bk, 0, none⟩)) := (HC1.out.cell 0).trans (show some (opV (m.now at_)) = _ by rw [HOPN.out])
    have hl1 : g < W1.heap.size := HC1.out.lt
    clear hW1 c0 c1 c2 c3 c4 c5 c6 c7 c8 c9 c10 c11 hl f0 f1 f2
    go_upto_region 6 with (go_at_call 33; refine (HOS.out _ HH1.out).mono ?_; rintro e w2 ⟨rfl, hP, hCh⟩; have HP2 := Lib.hid hP; have HH2 := Lib.hid hCh; have hgb2 : w2.heap[g]? = W1.heap[g]? := hCh.block g hl1 (fun hx => by have := HKX.out; omega); have HG2 : Hid (CB w2 g 54 (mcs (m.now at_) q A c)) := HC1.out.keep hgb2; have z11 := (mcs_cells HG2.out).2.2.2.2.2.2.2.2.2.2.2.1; have zf := (mcs_cells HG2.out).2.2.2.2.2.2.2.2.2.2.2.2.2 11; have hl2 : g < w2.heap.size := HG2.out.lt; clear hP hCh hgb2)
    have HG3 : Hid (CB (w2.setCell ⟨g, 11, none⟩ (.bool b)) g 54 ((mcs (m.now at_) q A c).setIfInBounds 11 (.bool b))) := HG2.out.set 11 _
    have HHX : Hid (Ch (fun b => κ b = 0 ∨ κ b = i + 2) v (w2.setCell ⟨g, 11, none⟩ (.bool b))) := by
      refine ((HH1.out.mono (fun b hb _ => .inr (by rw [show b = g from hb]; exact HKX.out))).trans HH2.out (fun b hb _ => .inl hb)).trans ((Ch.refl _ _).set1 11 (.bool b)) (fun b hb _ => .inr (by rw [show b = g from hb]; exact HKX.out))
    have HP3 : Hid (PMx (fun b => κ b ≠ 0) p d t 0 32 ((40 : Nat) * 64) (w2.setCell ⟨g, 11, none⟩ (.bool b)) σ') := HP2.out.chK ((Ch.refl _ _).set1 11 (.bool b)) (fun b _ hb => by rw [show b = g from hb]; have := HKX.out; omega)
    have z0 : (w2.setCell ⟨g, 11, none⟩ (.bool b)).cell? ⟨g, 1, none⟩ = some (.pointer none) := (HG3.out.cell 1).trans (show some (rdP (m.now at_)) = _ by rw [HRDN.out])
    have z1 : (w2.setCell ⟨g, 11, none⟩ (.bool b)).cell? ⟨g, 11, none⟩ = some (.bool b) := (HG3.out.cell 11).trans rfl
    have z6 : (w2.setCell ⟨g, 11, none⟩ (.bool b)).cell? ⟨g, 6, none⟩ = some (.int .i64 (m.now at_).en) := (HG3.out.cell 6).trans rfl
    have g6 := HG3.out.frozen 6
    have hl3 : g < (w2.setCell ⟨g, 11, none⟩ (.bool b)).heap.size := HG3.out.lt
    obtain ⟨W3, hW3⟩ : ∃ W3, w2.setCell ⟨g, 11, none⟩ (.bool b) = W3 := ⟨_, rfl⟩
    rw [hW3] at HG3 HHX HP3 z0 z1 z6 g6 hl3 ⊢
    clear hW3 z11 zf hl2 HG2 HH2 HP2 HC1 HH1 y1 hl1 HOS
    cases b with
    | false =>
      go_wp2
      exact bodyPost_ret (v := .tuple #[]) (by simp [results, Tryz.results28, go_sem]) rfl (HFIN.out W3 (by rw [HRD.out, if_neg (by simp)]; exact HG3.out) HP3.out HHX.out)
    | true =>
      have he0 := HER.out (by first | rfl | trivial)
      subst he0
      go_upto_region 11 with (fail)
      have HG4 : Hid (CB (W3.setCell ⟨g, 6, none⟩ (.int .i64 at_)) g 54 (((mcs (m.now at_) q A c).setIfInBounds 11 (.bool true)).setIfInBounds 6 (.int .i64 at_))) := HG3.out.set 6 _
      have HH4 : Hid (Ch (fun b => κ b = 0 ∨ κ b = i + 2) v (W3.setCell ⟨g, 6, none⟩ (.int .i64 at_))) := HHX.out.trans ((Ch.refl _ _).set1 6 (.int .i64 at_)) (fun b hb _ => .inr (by rw [show b = g from hb]; exact HKX.out))
      have HP4 : Hid (PMx (fun b => κ b ≠ 0) p d t 0 32 ((40 : Nat) * 64) (W3.setCell ⟨g, 6, none⟩ (.int .i64 at_)) σ') := HP3.out.chK ((Ch.refl _ _).set1 6 (.int .i64 at_)) (fun b _ hb => by rw [show b = g from hb]; have := HKX.out; omega)
      obtain ⟨W4, hW4⟩ : ∃ W4, W3.setCell ⟨g, 6, none⟩ (.int .i64 at_) = W4 := ⟨_, rfl⟩
      rw [hW4] at HG4 HH4 HP4 ⊢
      clear hW4 z0 z1 z6 g6 hl3 HG3 HHX HP3
      refine ord_makes [] [.p [0, 1, 2, 3, 4, 7, 8, 9], .q [5, 6, 10, 11], .p [12, 13, 14, 15], .h [16, 17, 18, 19, 20]] (by kernel_rfl) (fun _ _ d _ _ h => by cases d <;> exact h) (by kernel_rfl) ?_
      dsimp only [pick, List.filterMap, List.getElem?_cons_zero, List.getElem?_cons_succ]
      refine wpQuiet_nil ?_
      rintro _ ⟨x0, rfl⟩
      have HG5 : Hid (CB x0.w g 54 (((mcs (m.now at_) q A c).setIfInBounds 11 (.bool true)).setIfInBounds 6 (.int .i64 at_))) := HG4.out.bx x0
      have HP5 : Hid (PMx (fun b => κ b ≠ 0) p d t 0 32 ((40 : Nat) * 64) x0.w σ') := HP4.out.bl0 x0.below
      have HH5 : Hid (Ch (fun b => κ b = 0 ∨ κ b = i + 2) v x0.w) := HH4.out.trans (Ch.of_below (S := fun _ => False) x0.below) (fun b hb _ => hb.elim)
      obtain ⟨W5, hW5⟩ : ∃ W5, x0.w = W5 := ⟨_, rfl⟩
      rw [hW5] at HG5 HP5 HH5 ⊢
      have y0 : W5.cell? ⟨g, 0, none⟩ = some (.pointer (some ⟨bk, 0, none⟩)) := (HG5.out.cell 0).trans (show some (opV (m.now at_)) = _ by rw [HOPN.out])
      have hl5 : g < W5.heap.size := HG5.out.lt
      have HOK : Hid (∀ W, Below W5.heap.size W5 W → Calls Tryz.prog 22 #[.pointer (some ⟨bk, 0, none⟩)] W fun e w' => e = .returned (.bool chg) ∧ Below W.heap.size W w') := fun W hW => by have := (HOE.out W (HP5.out.bl0 hW)).1; simpa using this
      have HRR : Hid (∀ W, Below W5.heap.size W5 W → Calls Tryz.prog 34 #[.pointer (some ⟨bk, 0, none⟩)] W fun e w' => e = .returned (.int .i64 0) ∧ Below W.heap.size W w') := fun W hW => (HOE.out W (HP5.out.bl0 hW)).2
      clear hW5 HG4 HP4 HH4
      with_reducible refine part_pure ?_
      dsimp only [pick, List.filterMap, List.getElem?_cons_zero, List.getElem?_cons_succ]
      (repeat (first | (refine pure_ex rfl ?_; apply Exists.intro; apply And.intro; (intro w; go_simp; rfl); simp only [Act.put, List.setIfInBounds_toArray, List.set_cons_succ, List.set_cons_zero]) | (refine pure_skip rfl ?_; simp only [Act.put, List.setIfInBounds_toArray, List.set_cons_succ, List.set_cons_zero]))); refine pure_nil ?_
      with_reducible refine part_makes ?_
      dsimp only [pick, List.filterMap, List.getElem?_cons_zero, List.getElem?_cons_succ]
      (repeat (go_big_quiet_step (first | (go_at_call 22; exact bx_call (HOK.out _ (by (repeat (first | with_reducible exact Below.refl _ _ | with_reducible refine bl_alloc ?_ _ | with_reducible refine bl_drew ?_ | with_reducible refine bl_drewN ?_ _ | with_reducible refine bl_bx ?_ _ | with_reducible exact BX.below _ | with_reducible refine bl_set ?_ (by first | (exact Nat.le_refl _) | (simp; done) | (simp; omega)) _ | assumption))))) | (go_at_call 34; exact bx_call (HRR.out _ (by (repeat (first | with_reducible exact Below.refl _ _ | with_reducible refine bl_alloc ?_ _ | with_reducible refine bl_drew ?_ | with_reducible refine bl_drewN ?_ _ | with_reducible refine bl_bx ?_ _ | with_reducible exact BX.below _ | with_reducible refine bl_set ?_ (by first | (exact Nat.le_refl _) | (simp; done) | (simp; omega)) _ | assumption))))))))
      refine wpQuiet_nil ?_
      rintro _ ⟨y, rfl⟩
      with_reducible refine part_pure ?_
      dsimp only [pick, List.filterMap, List.getElem?_cons_zero, List.getElem?_cons_succ]
      (repeat (first | (refine pure_ex rfl ?_; apply Exists.intro; apply And.intro; (intro w; go_simp; rfl); simp only [Act.put, List.setIfInBounds_toArray, List.set_cons_succ, List.set_cons_zero]) | (refine pure_skip rfl ?_; simp only [Act.put, List.setIfInBounds_toArray, List.set_cons_succ, List.set_cons_zero]))); refine pure_nil ?_
      have HG6 : Hid (CB y.w g 54 (((mcs (m.now at_) q A c).setIfInBounds 11 (.bool true)).setIfInBounds 6 (.int .i64 at_))) := HG5.out.bx y
      have k8 : y.w.cell? ⟨g, 8, none⟩ = some (.bool (m.now at_).ok) := (HG6.out.cell 8).trans rfl
      have k7 : y.w.cell? ⟨g, 7, none⟩ = some (.bool (m.now at_).ended) := (HG6.out.cell 7).trans rfl
      have q8 := HG6.out.frozen 8
      have q7 := HG6.out.frozen 7
      have hl6 := HG6.out.lt
      with_reducible refine part_hard ?_
      dsimp only [pick, List.filterMap, List.getElem?_cons_zero, List.getElem?_cons_succ]
      go_wp2
      with_reducible refine segs_end ?_
      with_reducible refine part_nil ?_
      go_wp2
      have HX5 : Ch (At g) y.w ((y.w.setCell ⟨g, 8, none⟩ (.bool chg)).setCell ⟨g, 7, none⟩ (.bool true)) := ((Ch.refl _ _).set1 _ _).set1 _ _
      refine bodyPost_ret (v := .tuple #[]) (by simp [results, Tryz.results28, go_sem]) rfl (HFIN.out _ ?_ ?_ ?_)
      · rw [HRD.out]; first | rw [if_pos rfl] | rw [if_pos trivial]
        exact (HG6.out.set 8 _).set 7 _
      · exact (HP5.out.bl0 y.below).chK HX5 (fun b _ hb => by rw [show b = g from hb]; have := HKX.out; omega)
      · exact (HH5.out.trans (Ch.of_below (S := fun _ => False) y.below) (fun b hb _ => hb.elim)).trans HX5 (fun b hb _ => .inr (by rw [show b = g from hb]; exact HKX.out))
  | true =>
    rw [hon] at c10 HNOW
    go_enter Tryz.func28, Tryz.ntmps28
    go_upto_region 5 with (fail)
    have HC1 : Hid (CB w g 54 (mcs (m.now at_) q A c)) := by rw [HNOW.out]; exact H1.out
    have HH1 : Hid (Ch (At g) v w) := HV.out
    obtain ⟨W1, hW1⟩ : ∃ W1, w = W1 := ⟨_, rfl⟩
    rw [hW1] at HC1 HH1 ⊢
    have y1 : W1.cell? ⟨g, 0, none⟩ = some (.pointer (some ⟨bk, 0, none⟩)) := (HC1.out.cell 0).trans (show some (opV (m.now at_)) = _ by rw [HOPN.out])
    have hl1 : g < W1.heap.size := HC1.out.lt
    clear hW1 c0 c1 c2 c3 c4 c5 c6 c7 c8 c9 c10 c11 hl f0 f1 f2
    go_upto_region 6 with (go_at_call 33; refine (HOS.out _ HH1.out).mono ?_; rintro e w2 ⟨rfl, hP, hCh⟩; have HP2 := Lib.hid hP; have HH2 := Lib.hid hCh; have hgb2 : w2.heap[g]? = W1.heap[g]? := hCh.block g hl1 (fun hx => by have := HKX.out; omega); have HG2 : Hid (CB w2 g 54 (mcs (m.now at_) q A c)) := HC1.out.keep hgb2; have z11 := (mcs_cells HG2.out).2.2.2.2.2.2.2.2.2.2.2.1; have zf := (mcs_cells HG2.out).2.2.2.2.2.2.2.2.2.2.2.2.2 11; have hl2 : g < w2.heap.size := HG2.out.lt; clear hP hCh hgb2)
    have HG3 : Hid (CB (w2.setCell ⟨g, 11, none⟩ (.bool b)) g 54 ((mcs (m.now at_) q A c).setIfInBounds 11 (.bool b))) := HG2.out.set 11 _
    have HHX : Hid (Ch (fun b => κ b = 0 ∨ κ b = i + 2) v (w2.setCell ⟨g, 11, none⟩ (.bool b))) := by
      refine ((HH1.out.mono (fun b hb _ => .inr (by rw [show b = g from hb]; exact HKX.out))).trans HH2.out (fun b hb _ => .inl hb)).trans ((Ch.refl _ _).set1 11 (.bool b)) (fun b hb _ => .inr (by rw [show b = g from hb]; exact HKX.out))
    have HP3 : Hid (PMx (fun b => κ b ≠ 0) p d t 0 32 ((40 : Nat) * 64) (w2.setCell ⟨g, 11, none⟩ (.bool b)) σ') := HP2.out.chK ((Ch.refl _ _).set1 11 (.bool b)) (fun b _ hb => by rw [show b = g from hb]; have := HKX.out; omega)
    have z0 : (w2.setCell ⟨g, 11, none⟩ (.bool b)).cell? ⟨g, 1, none⟩ = some (.pointer none) := (HG3.out.cell 1).trans (show some (rdP (m.now at_)) = _ by rw [HRDN.out])
    have z1 : (w2.setCell ⟨g, 11, none⟩ (.bool b)).cell? ⟨g, 11, none⟩ = some (.bool b) := (HG3.out.cell 11).trans rfl
    have z6 : (w2.setCell ⟨g, 11, none⟩ (.bool b)).cell? ⟨g, 6, none⟩ = some (.int .i64 (m.now at_).en) := (HG3.out.cell 6).trans rfl
    have g6 := HG3.out.frozen 6
    have hl3 : g < (w2.setCell ⟨g, 11, none⟩ (.bool b)).heap.size := HG3.out.lt
    obtain ⟨W3, hW3⟩ : ∃ W3, w2.setCell ⟨g, 11, none⟩ (.bool b) = W3 := ⟨_, rfl⟩
    rw [hW3] at HG3 HHX HP3 z0 z1 z6 g6 hl3 ⊢
    clear hW3 z11 zf hl2 HG2 HH2 HP2 HC1 HH1 y1 hl1 HOS
    cases b with
    | false =>
      go_wp2
      exact bodyPost_ret (v := .tuple #[]) (by simp [results, Tryz.results28, go_sem]) rfl (HFIN.out W3 (by rw [HRD.out, if_neg (by simp)]; exact HG3.out) HP3.out HHX.out)
    | true =>
      have he0 := HER.out (by first | rfl | trivial)
      subst he0
      go_upto_region 11 with (fail)
      have HG4 : Hid (CB (W3.setCell ⟨g, 6, none⟩ (.int .i64 at_)) g 54 (((mcs (m.now at_) q A c).setIfInBounds 11 (.bool true)).setIfInBounds 6 (.int .i64 at_))) := HG3.out.set 6 _
      have HH4 : Hid (Ch (fun b => κ b = 0 ∨ κ b = i + 2) v (W3.setCell ⟨g, 6, none⟩ (.int .i64 at_))) := HHX.out.trans ((Ch.refl _ _).set1 6 (.int .i64 at_)) (fun b hb _ => .inr (by rw [show b = g from hb]; exact HKX.out))
      have HP4 : Hid (PMx (fun b => κ b ≠ 0) p d t 0 32 ((40 : Nat) * 64) (W3.setCell ⟨g, 6, none⟩ (.int .i64 at_)) σ') := HP3.out.chK ((Ch.refl _ _).set1 6 (.int .i64 at_)) (fun b _ hb => by rw [show b = g from hb]; have := HKX.out; omega)
      obtain ⟨W4, hW4⟩ : ∃ W4, W3.setCell ⟨g, 6, none⟩ (.int .i64 at_) = W4 := ⟨_, rfl⟩
      rw [hW4] at HG4 HH4 HP4 ⊢
      clear hW4 z0 z1 z6 g6 hl3 HG3 HHX HP3
      refine ord_makes [] [.p [0, 1, 2, 3, 4, 7, 8, 9], .q [5, 6, 10, 11], .p [12, 13, 14, 15], .h [16, 17, 18, 19, 20]] (by kernel_rfl) (fun _ _ d _ _ h => by cases d <;> exact h) (by kernel_rfl) ?_
      dsimp only [pick, List.filterMap, List.getElem?_cons_zero, List.getElem?_cons_succ]
      refine wpQuiet_nil ?_
      rintro _ ⟨x0, rfl⟩
      have HG5 : Hid (CB x0.w g 54 (((mcs (m.now at_) q A c).setIfInBounds 11 (.bool true)).setIfInBounds 6 (.int .i64 at_))) := HG4.out.bx x0
      have HP5 : Hid (PMx (fun b => κ b ≠ 0) p d t 0 32 ((40 : Nat) * 64) x0.w σ') := HP4.out.bl0 x0.below
      have HH5 : Hid (Ch (fun b => κ b = 0 ∨ κ b = i + 2) v x0.w) := HH4.out.trans (Ch.of_below (S := fun _ => False) x0.below) (fun b hb _ => hb.elim)
      obtain ⟨W5, hW5⟩ : ∃ W5, x0.w = W5 := ⟨_, rfl⟩
      rw [hW5] at HG5 HP5 HH5 ⊢
      have y0 : W5.cell? ⟨g, 0, none⟩ = some (.pointer (some ⟨bk, 0, none⟩)) := (HG5.out.cell 0).trans (show some (opV (m.now at_)) = _ by rw [HOPN.out])
      have hl5 : g < W5.heap.size := HG5.out.lt
      have HOK : Hid (∀ W, Below W5.heap.size W5 W → Calls Tryz.prog 22 #[.pointer (some ⟨bk, 0, none⟩)] W fun e w' => e = .returned (.bool chg) ∧ Below W.heap.size W w') := fun W hW => by have := (HOE.out W (HP5.out.bl0 hW)).1; simpa using this
      have HRR : Hid (∀ W, Below W5.heap.size W5 W → Calls Tryz.prog 34 #[.pointer (some ⟨bk, 0, none⟩)] W fun e w' => e = .returned (.int .i64 0) ∧ Below W.heap.size W w') := fun W hW => (HOE.out W (HP5.out.bl0 hW)).2
      clear hW5 HG4 HP4 HH4
      with_reducible refine part_pure ?_
      dsimp only [pick, List.filterMap, List.getElem?_cons_zero, List.getElem?_cons_succ]
      (repeat (first | (refine pure_ex rfl ?_; apply Exists.intro; apply And.intro; (intro w; go_simp; rfl); simp only [Act.put, List.setIfInBounds_toArray, List.set_cons_succ, List.set_cons_zero]) | (refine pure_skip rfl ?_; simp only [Act.put, List.setIfInBounds_toArray, List.set_cons_succ, List.set_cons_zero]))); refine pure_nil ?_
      with_reducible refine part_makes ?_
      dsimp only [pick, List.filterMap, List.getElem?_cons_zero, List.getElem?_cons_succ]
      (repeat (go_big_quiet_step (first | (go_at_call 22; exact bx_call (HOK.out _ (by (repeat (first | with_reducible exact Below.refl _ _ | with_reducible refine bl_alloc ?_ _ | with_reducible refine bl_drew ?_ | with_reducible refine bl_drewN ?_ _ | with_reducible refine bl_bx ?_ _ | with_reducible exact BX.below _ | with_reducible refine bl_set ?_ (by first | (exact Nat.le_refl _) | (simp; done) | (simp; omega)) _ | assumption))))) | (go_at_call 34; exact bx_call (HRR.out _ (by (repeat (first | with_reducible exact Below.refl _ _ | with_reducible refine bl_alloc ?_ _ | with_reducible refine bl_drew ?_ | with_reducible refine bl_drewN ?_ _ | with_reducible refine bl_bx ?_ _ | with_reducible exact BX.below _ | with_reducible refine bl_set ?_ (by first | (exact Nat.le_refl _) | (simp; done) | (simp; omega)) _ | assumption))))))))
      refine wpQuiet_nil ?_
      rintro _ ⟨y, rfl⟩
      with_reducible refine part_pure ?_
      dsimp only [pick, List.filterMap, List.getElem?_cons_zero, List.getElem?_cons_succ]
      (repeat (first | (refine pure_ex rfl ?_; apply Exists.intro; apply And.intro; (intro w; go_simp; rfl); simp only [Act.put, List.setIfInBounds_toArray, List.set_cons_succ, List.set_cons_zero]) | (refine pure_skip rfl ?_; simp only [Act.put, List.setIfInBounds_toArray, List.set_cons_succ, List.set_cons_zero]))); refine pure_nil ?_
      have HG6 : Hid (CB y.w g 54 (((mcs (m.now at_) q A c).setIfInBounds 11 (.bool true)).setIfInBounds 6 (.int .i64 at_))) := HG5.out.bx y
      have k8 : y.w.cell? ⟨g, 8, none⟩ = some (.bool (m.now at_).ok) := (HG6.out.cell 8).trans rfl
      have k7 : y.w.cell? ⟨g, 7, none⟩ = some (.bool (m.now at_).ended) := (HG6.out.cell 7).trans rfl
      have q8 := HG6.out.frozen 8
      have q7 := HG6.out.frozen 7
      have hl6 := HG6.out.lt
      with_reducible refine part_hard ?_
      dsimp only [pick, List.filterMap, List.getElem?_cons_zero, List.getElem?_cons_succ]
      go_wp2
      with_reducible refine segs_end ?_
      with_reducible refine part_nil ?_
      go_wp2
      have HX5 : Ch (At g) y.w ((y.w.setCell ⟨g, 8, none⟩ (.bool chg)).setCell ⟨g, 7, none⟩ (.bool true)) := ((Ch.refl _ _).set1 _ _).set1 _ _
      refine bodyPost_ret (v := .tuple #[]) (by simp [results, Tryz.results28, go_sem]) rfl (HFIN.out _ ?_ ?_ ?_)
      · rw [HRD.out]; first | rw [if_pos rfl] | rw [if_pos trivial]
        exact (HG6.out.set 8 _).set 7 _
      · exact (HP5.out.bl0 y.below).chK HX5 (fun b _ hb => by rw [show b = g from hb]; have := HKX.out; omega)
      · exact (HH5.out.trans (Ch.of_below (S := fun _ => False) y.below) (fun b hb _ => hb.elim)).trans HX5 (fun b hb _ => .inr (by rw [show b = g from hb]; exact HKX.out))
end Go.Proofs.YtjaohgnloddgfaaGreatDoor

namespace Go.Proofs.YtjaohgnloddgfaaGreatDoor
open Go.RowKit
set_option linter.unusedVariables false
set_option linter.unusedSimpArgs false

section
variable {sum : List Int → Int} {at0 : Nat → Int} {n cnt N : Nat} {M : Nat → Prop} {ks : List Kd} {L0 L : Nat → Int} {σ : PwS} {ms : List MaS} {at_ : Nat} {ord : List Nat} {xs : List Int}
/-- The raw words are without flags. -/
theorem Inv.word_range (h : Inv sum at0 n cnt M N σ xs L) {k : Nat} (hk : M k) : ∃ v, xs[k]? = some v ∧ 0 ≤ v ∧ v < 4611686018427387904 := by
  have hLk := h.hL k hk
  cases hc : σ.cur with
  | none => exact ⟨_, h.idle hc k hk, hLk⟩
  | some c =>
    obtain ⟨oc, g1, g2, g3, g4⟩ := h.run c hc
    have hok := h.ok c oc g1
    rcases g4 with ⟨_, _, _, hx⟩ | ⟨_, _, _, hx⟩ | ⟨_, hs, _, hx, hy⟩ | ⟨_, _, hx⟩
    · exact ⟨_, hx k hk, hLk⟩
    · exact ⟨_, hx k hk, hLk⟩
    · by_cases hq : ∃ q, q < oc.es.length ∧ wdE oc.es q = k
      · obtain ⟨q, hql, rfl⟩ := hq
        rcases hy q hql with h1 | h1
        · exact ⟨_, h1, hLk⟩
        · exact ⟨_, h1, Ent.after_range _ _ (hok.at_ hql).new⟩
      · exact ⟨_, hx k hk (fun q hql he => hq ⟨q, hql, he⟩), hLk⟩
    · exact ⟨_, hx k hk, hLk⟩
theorem Ls.tick (h : Ls n M ks L0 σ ms at_ L ord) : Ls n M ks L0 σ ms (at_ + 1) L ord :=
  ⟨h.kds, h.nd, h.mem, h.hL, h.ma, h.inj, h.cur, fun i m hi => ⟨fun ho => Nat.lt_succ_of_lt ((h.tm i m hi).1 ho), fun ho => Nat.lt_succ_of_lt ((h.tm i m hi).2 ho)⟩, h.rt⟩
end
theorem QS.tick {sum : List Int → Int} {at0 : Nat → Int} {n : Nat} {M : Nat → Prop} {ks : List Kd} {L0 : Nat → Int} {dk : Nat → Nat} {B : Nat} {σ : PwS} {ms : List MaS} {at_ : Nat} (h : QS sum at0 n M ks L0 dk B σ ms at_) : QS sum at0 n M ks L0 dk B σ ms (at_ + 1) := by
  obtain ⟨N, xs, L, ord, h1, h2, h3⟩ := h.ex
  exact ⟨⟨N, xs, L, ord, h1, h2.tick, by omega⟩, h.len, h.bz⟩
def TD0 : TdS := ⟨0, []⟩
/-- A run in memory. -/
structure RunS (κ : Nat → Nat) (p d : Nat) (t : Nat → Nat) (ks : List Kd) (L0 : Nat → Int) (dk : Nat → Nat) (B : Nat) (qs : List TdS) (gs : List Nat) (w : World) (σ : PwS) (ms : List MaS) (at_ : Nat) : Prop where
  q : QS sumI (atW 0) 40 M17 ks L0 dk B σ ms at_
  pm : PMx (fun b => κ b ≠ 0) p d t 0 32 ((40 : Nat) * 64) w σ
  mm : ∀ (i : Nat) (m : MaS), ms[i]? = some m → MaM κ i p t w (gs.getD i 0) m (qs.getD i TD0)
  rw : ∀ (i : Nat) (m : MaS) (k : Nat), ms[i]? = some m → m.kd = .rd k → 0 ≤ m.rs.raw ∧ m.rs.raw < 4611686018427387904
  tab : Tab w
  k0 : κ 0 = 1
/-- What a step of a machine leaves. -/
def RunP (κ : Nat → Nat) (p d : Nat) (t : Nat → Nat) (ks : List Kd) (L0 : Nat → Int) (dk : Nat → Nat) (B : Nat) (qs : List TdS) (gs : List Nat) (σ : PwS) (ms : List MaS) (at_ i : Nat) (m : MaS) (w : World) (e : Ending) (w' : World) : Prop :=
  e = .returned (.tuple #[]) ∧ ∃ σ' m', RunS κ p d t ks L0 dk B qs gs w' σ' (ms.set i m') (at_ + 1) ∧ Ch (fun b => κ b ≠ 1 ∧ κ b ≠ 9) w w' ∧ m'.kd = m.kd ∧ (m.done = true → m'.done = true) ∧ muS σ' (ms.set i m') ≤ muS σ ms ∧ (m.done = false → muS σ' (ms.set i m') + 1 ≤ muS σ ms)
theorem set_self {ms : List MaS} {i : Nat} {m : MaS} (hi : ms[i]? = some m) : ms.set i m = ms := by
  apply List.ext_getElem?
  intro j
  by_cases h : j = i
  · subst h
    rw [List.getElem?_set_self (List.getElem?_eq_some_iff.1 hi).1, hi]
  · rw [List.getElem?_set_ne (Ne.symm h)]
section
variable {κ : Nat → Nat} {p d : Nat} {t : Nat → Nat} {ks : List Kd} {L0 : Nat → Int} {dk : Nat → Nat} {B : Nat} {qs : List TdS} {gs : List Nat} {w w' : World} {σ σ' : PwS} {ms : List MaS} {at_ i : Nat} {m m' : MaS}
/-- The other machines, and the run, behind a step of machine i. -/
theorem RunS.after (h : RunS κ p d t ks L0 dk B qs gs w σ ms at_) (hi : ms[i]? = some m) (hq : QS sumI (atW 0) 40 M17 ks L0 dk B σ' (ms.set i m') (at_ + 1)) (hp : PMx (fun b => κ b ≠ 0) p d t 0 32 ((40 : Nat) * 64) w' σ') (hm : MaM κ i p t w' (gs.getD i 0) m' (qs.getD i TD0))
    (hr : ∀ k, m'.kd = .rd k → 0 ≤ m'.rs.raw ∧ m'.rs.raw < 4611686018427387904) (hC : Ch (fun b => κ b = 0 ∨ κ b = i + 2) w w') : RunS κ p d t ks L0 dk B qs gs w' σ' (ms.set i m') (at_ + 1) := by
  refine ⟨hq, hp, fun j mj hj => ?_, fun j mj k hj hk => ?_, h.tab.ch hC (fun hx => by have := h.k0; omega), h.k0⟩
  · rcases get_set_cases hi hj with ⟨h1, h2⟩ | ⟨h1, h2⟩
    · rw [h1, h2]; exact hm
    · exact (h.mm j mj h2).ch hC (fun b _ hb => by omega)
  · rcases get_set_cases hi hj with ⟨h1, h2⟩ | ⟨h1, h2⟩
    · rw [h2] at hk ⊢; exact hr k hk
    · exact h.rw j mj k h2 hk
theorem RunS.step (h : RunS κ p d t ks L0 dk B qs gs w σ ms at_) (hB : B + at_ < 1000000) (hi : ms[i]? = some m) :
    Calls Tryz.prog 28 #[.pointer (some ⟨gs.getD i 0, 0, none⟩), .int .i64 (at_ : Int)] w (RunP κ p d t ks L0 dk B qs gs σ ms at_ i m w) := by
  have hM := h.mm i m hi
  have hi3 : i < 3 := Nat.lt_of_lt_of_le (List.getElem?_eq_some_iff.1 hi).1 h.q.len
  obtain ⟨N, xs, L, ord, hI, hL, hN⟩ := h.q.ex
  have hN2 : N < 1000000 := by omega
  cases hd : m.done with
  | true =>
    refine (mcStepDone hM hd _).mono ?_
    rintro e w' ⟨rfl, rfl⟩
    refine ⟨rfl, σ, m, ?_, Ch.refl _ _, rfl, fun _ => hd, by rw [set_self hi]; exact Nat.le_refl _, fun hx => by rw [hd] at hx; cases hx⟩
    rw [set_self hi]
    exact ⟨h.q.tick, h.pm, h.mm, h.rw, h.tab, h.k0⟩
  | false =>
    cases hk : m.kd with
    | rd k =>
      obtain ⟨hq2, hmu, herr⟩ := h.q.read hB hi hk hd
      obtain ⟨a1, a2, a3, a4, a5, a6, a7, a8, a9, a10⟩ := (hL.ma i m hi).rd k hk
      have hR := hI.rstep hN2 a1 a2 a3 a4 (a8.trans hd) a5 (a9 hd)
      have hraw : 0 ≤ (σ.rstep m.rs).2.raw ∧ (σ.rstep m.rs).2.raw < 4611686018427387904 := by
        rw [hR.raw]
        split
        · exact hI.hL k a1
        · exact h.rw i m k hi hk
      have hk2 : k < 296 := a1.2
      refine (mcRead (at_ := at_) h.pm hM hk hd (fun c hc => ?_) a4 (by rw [a3]; omega) hI.on.good hN2 (a9 hd) (fun _ => ?_) herr ⟨hraw.1, by omega⟩ hR.th.1).mono ?_
      · obtain ⟨oc, g1, _⟩ := hI.run c hc
        have hok := hI.ok c oc g1
        have := hok.l6
        exact ⟨oc, g1, hok.sl, by omega⟩
      · obtain ⟨v, hv, hv2⟩ := hI.word_range a1
        rw [a3, (hI.on.load_at a2 hv 0).2]
        exact hv2
      · rintro e w2 ⟨rfl, x1, x2, x3⟩
        exact ⟨rfl, _, _, h.after hi hq2 x1 x2 (fun _ _ => hraw) x3, x3.mono (fun b hb _ => by omega), (m.now_same at_).1, fun hx => (by rw [hd] at hx; cases hx), Nat.le_of_succ_le hmu, fun _ => hmu⟩
    | op es =>
      obtain ⟨σ', b, o', r1, r2, r3, r4, r5, r6⟩ := h.q.oper reg17 hB hi hk hd
      obtain ⟨o, o1, o2, o3, o4, o5, o6, o7⟩ := (hL.ma i m hi).op es hk
      have hE : EnvOk 0 40 8 2304 σ := ⟨by omega, by omega, h.q.bz.len, fun x ox hx => ⟨by have := (hI.ok x ox hx).l6; omega, fun e he => start17 ((hI.ok x ox hx).ent e he)⟩⟩
      refine (mcOper (at_ := at_) h.pm hM hk hd h.tab h.k0 hI hN2 hE o1 r1 r2 r3 r4).mono ?_
      rintro e w2 ⟨rfl, x1, x2, x3⟩
      have hkd : (m.opd at_ b o'.changed).kd = .op es := (m.now_same at_).1.trans hk
      exact ⟨rfl, _, _, h.after hi r5 x1 x2 (fun k hk2 => by rw [hkd] at hk2; cases hk2) x3, x3.mono (fun b hb _ => by omega), (m.now_same at_).1, fun hx => (by rw [hd] at hx; cases hx), Nat.le_of_succ_le r6, fun _ => r6⟩
end
end Go.Proofs.YtjaohgnloddgfaaGreatDoor
