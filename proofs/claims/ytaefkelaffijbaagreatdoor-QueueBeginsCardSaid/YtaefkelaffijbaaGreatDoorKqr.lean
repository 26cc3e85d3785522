/- The law QueueBegins (merged). -/
import Derived.Test.YtaefkelaffijbaaGreatDoorKqo
import Derived.Test.YtaefkelaffijbaaGreatDoorKqt
namespace Go.Proofs.YtaefkelaffijbaaGreatDoor
open Go.RowKit
set_option linter.unusedVariables false
set_option linter.unusedSimpArgs false
/-- What is left by a call that is refused. -/
def RefP (er : Int) (w : World) (e : Ending) (w' : World) : Prop := e = .returned (.tuple #[.pointer none, .int .i64 er]) ∧ Below w.heap.size w w'
/-- Why a call is refused. -/
def Refd (z val er : Int) (bs : Nat → Option Nat) (σ : PwS) : Prop :=
  (er = 1 ∧ (z < 0 ∨ 8 ≤ z)) ∨ (er = 2 ∧ 0 ≤ z ∧ z < 8 ∧ 1099511627776 ≤ val) ∨ (er = 7 ∧ val < 1099511627776 ∧ ∃ th a : Nat, z = (th : Int) ∧ th < 8 ∧ bs th = some a ∧ (σ.dev.thr th).err = 0)
section
variable {K : Nat → Prop} {p d q n lines P N : Nat} {t : Nat → Nat} {w w' : World} {σ : PwS} {bs : Nat → Option Nat} {size : Int}
set_option maxRecDepth 100000 in
set_option maxHeartbeats 4000000 in
theorem quBeginBad (H : PMx K p d t 0 32 size w σ) (hq : CB w q 93 (qcells d p 2048 lines bs)) (z : Int) (ins : Bool) (val er : Int) (hv : 0 ≤ val) (hr : Refd z val er bs σ) :
    Calls Tryz.prog 43 #[.pointer (some ⟨q, 0, none⟩), .int .i64 z, .agg #[.pointer none, .int .i64 0, .bool ins, .int .u64 val, .int .u8 0, .pointer none, .pointer none, .int .u64 0, .int .u64 0, .int .i64 0, .bool false]] w (RefP er w) := by
  obtain ⟨q0, q1, q2, q3, ql⟩ := hq.qc
  rcases hr with ⟨rfl, h⟩ | ⟨rfl, h0, h8, h⟩ | ⟨rfl, hvl, th, a, rfl, hth, hbs, herr⟩
  · clear H hq
    rcases h with h | h
    · have hz : z < 0 := h
      go_enter Tryz.func43, Tryz.ntmps43
      go_wp2
      exact bodyPost_ret (v := .tuple #[.pointer none, .int .i64 1]) (by simp [results, Tryz.results43, go_sem]) rfl ⟨rfl, by (repeat (first | with_reducible (first | exact Below.refl _ _ | refine bl_alloc ?_ _ | refine bl_drew ?_ | refine bl_drewN ?_ _ | refine bl_bx ?_ _ | exact BX.below _ | refine bl_set ?_ (by first | (exact Nat.le_refl _) | (simp; done) | (simp; omega)) _) | assumption))⟩
    · have hz : ¬ z < 0 := by omega
      have hz8 : 8 ≤ z := h
      go_enter Tryz.func43, Tryz.ntmps43
      go_wp2
      exact bodyPost_ret (v := .tuple #[.pointer none, .int .i64 1]) (by simp [results, Tryz.results43, go_sem]) rfl ⟨rfl, by (repeat (first | with_reducible (first | exact Below.refl _ _ | refine bl_alloc ?_ _ | refine bl_drew ?_ | refine bl_drewN ?_ _ | refine bl_bx ?_ _ | exact BX.below _ | refine bl_set ?_ (by first | (exact Nat.le_refl _) | (simp; done) | (simp; omega)) _) | assumption))⟩
  · have hz : ¬ z < 0 := by omega
    have hz8 : ¬ 8 ≤ z := by omega
    clear H hq
    go_enter Tryz.func43, Tryz.ntmps43
    go_wp2
    exact bodyPost_ret (v := .tuple #[.pointer none, .int .i64 2]) (by simp [results, Tryz.results43, go_sem]) rfl ⟨rfl, by (repeat (first | with_reducible (first | exact Below.refl _ _ | refine bl_alloc ?_ _ | refine bl_drew ?_ | refine bl_drewN ?_ _ | refine bl_bx ?_ _ | exact BX.below _ | refine bl_set ?_ (by first | (exact Nat.le_refl _) | (simp; done) | (simp; omega)) _) | assumption))⟩
  · have HTH : Hid (∀ W, Below w.heap.size w W → Calls Tryz.prog 35 #[.pointer (some ⟨d, 0, none⟩), .int .i64 (th : Int)] W fun e w' => e = .returned (.pointer (some ⟨t th, 0, none⟩)) ∧ W = w') := fun W hW => by
      obtain ⟨role, bb, h, hK⟩ := H.bl0 hW
      exact vThread h.dv th hth
    have HER : Hid (∀ W, Below w.heap.size w W → Calls Tryz.prog 62 #[.pointer (some ⟨t th, 0, none⟩)] W fun e w' => e = .returned (.int .i64 0) ∧ W = w') := fun W hW => by
      obtain ⟨role, bb, h, hK⟩ := H.bl0 hW
      have := vErr h.dv th hth
      rwa [herr] at this
    have qt := hq.qth hth
    rw [hbs] at qt
    have qt2 : w.cell? ⟨q, 4 + th, none⟩ = some (.pointer (some ⟨a, 0, none⟩)) := qt
    have hthI : (th : Int) < 8 := by omega
    have hth0 : ¬ (th : Int) < 0 := by omega
    have hth8 : ¬ (8 : Int) ≤ (th : Int) := by omega
    have hvl' : ¬ (1099511627776 : Int) ≤ val := by omega
    clear H hq hbs herr hth qt
    go_enter Tryz.func43, Tryz.ntmps43
    go_wp2_with (first
      | (go_at_call 35; (with_reducible refine (HTH.out _ (by (repeat (first | with_reducible (first | exact Below.refl _ _ | refine bl_alloc ?_ _ | refine bl_drew ?_ | refine bl_drewN ?_ _ | refine bl_bx ?_ _ | exact BX.below _ | refine bl_set ?_ (by first | (exact Nat.le_refl _) | (simp; done) | (simp; omega)) _) | assumption)))).mono ?_); rintro e w' ⟨rfl, rfl⟩)
      | (go_at_call 62; (with_reducible refine (HER.out _ (by (repeat (first | with_reducible (first | exact Below.refl _ _ | refine bl_alloc ?_ _ | refine bl_drew ?_ | refine bl_drewN ?_ _ | refine bl_bx ?_ _ | exact BX.below _ | refine bl_set ?_ (by first | (exact Nat.le_refl _) | (simp; done) | (simp; omega)) _) | assumption)))).mono ?_); rintro e w' ⟨rfl, rfl⟩))
    exact bodyPost_ret (v := .tuple #[.pointer none, .int .i64 7]) (by simp [results, Tryz.results43, go_sem]) rfl ⟨rfl, by (repeat (first | with_reducible (first | exact Below.refl _ _ | refine bl_alloc ?_ _ | refine bl_drew ?_ | refine bl_drewN ?_ _ | refine bl_bx ?_ _ | exact BX.below _ | refine bl_set ?_ (by first | (exact Nat.le_refl _) | (simp; done) | (simp; omega)) _) | assumption))⟩
set_option maxRecDepth 100000 in
theorem quEnqBad (H : PMx K p d t 0 32 size w σ) (hq : CB w q 93 (qcells d p 2048 lines bs)) (z val er : Int) (hv : 0 ≤ val) (hr : Refd z val er bs σ) :
    Calls Tryz.prog 19 #[.pointer (some ⟨q, 0, none⟩), .int .i64 z, .int .u64 val] w (RefP er w) := by
  have HB := Lib.hid (quBeginBad H hq z true val er hv hr)
  clear H hq hr
  go_enter Tryz.func19, Tryz.ntmps19
  go_wp2_with (go_at_call 43; (with_reducible refine HB.out.mono ?_); rintro e w1 ⟨rfl, hb⟩; have HBB := Lib.hid hb; clear hb)
  exact bodyPost_ret (v := .tuple #[.pointer none, .int .i64 er]) (by simp [results, Tryz.results19, go_sem]) rfl ⟨rfl, HBB.out⟩
set_option maxRecDepth 100000 in
theorem quDeqBad (H : PMx K p d t 0 32 size w σ) (hq : CB w q 93 (qcells d p 2048 lines bs)) (z er : Int) (hr : Refd z 0 er bs σ) :
    Calls Tryz.prog 20 #[.pointer (some ⟨q, 0, none⟩), .int .i64 z] w (RefP er w) := by
  have HB := Lib.hid (quBeginBad H hq z false 0 er (by omega) hr)
  clear H hq hr
  go_enter Tryz.func20, Tryz.ntmps20
  go_wp2_with (go_at_call 43; (with_reducible refine HB.out.mono ?_); rintro e w1 ⟨rfl, hb⟩; have HBB := Lib.hid hb; clear hb)
  exact bodyPost_ret (v := .tuple #[.pointer none, .int .i64 er]) (by simp [results, Tryz.results20, go_sem]) rfl ⟨rfl, HBB.out⟩
theorem devExec30 {L : Lay} {S : DevS} (w : World) (h : Dev w d L S) : Calls Tryz.prog 17 #[.pointer (some ⟨d, 0, none⟩)] w fun e w' => e = .returned (.int .u64 S.exec) ∧ w = w' := by
  have h0 := h.xcell
  have hl := h.lt
  clear h
  go_enter Tryz.func17, Tryz.ntmps17
  go_wp2
  go_ret
  exact ⟨rfl, rfl⟩
theorem PMx.exec30 (H : PMx K p d t 0 32 size w σ) : Calls Tryz.prog 17 #[.pointer (some ⟨d, 0, none⟩)] w fun e w' => e = .returned (.int .u64 σ.dev.exec) ∧ w = w' := by
  obtain ⟨role, bb, h, hK⟩ := H
  obtain ⟨_, L, _, h3, _⟩ := h.dv
  exact devExec30 w h3
/-- A call that has not begun. -/
theorem qoNew {ins : Bool} {v : Int} {th a : Nat} (h : CB w a 106 (qocell0 q th ins v)) : (Calls Tryz.prog 21 #[.pointer (some ⟨a, 0, none⟩)] w fun e w' => e = .returned (.bool false) ∧ w = w') ∧
    Calls Tryz.prog 22 #[.pointer (some ⟨a, 0, none⟩)] w fun e w' => e = .returned (.tuple #[.int .u64 0, .int .i64 8]) ∧ w = w' := by
  have c0 : w.cell? ⟨a, 0, none⟩ = some (.pointer (some ⟨q, 0, none⟩)) := h.cell 0
  have c10 : w.cell? ⟨a, 10, none⟩ = some (.bool false) := h.cell 10
  have hl := h.lt
  clear h
  constructor
  · go_enter Tryz.func21, Tryz.ntmps21
    go_wp2
    go_ret
    exact ⟨rfl, rfl⟩
  · go_enter Tryz.func22, Tryz.ntmps22
    go_wp2
    exact bodyPost_ret (v := .tuple #[.int .u64 0, .int .i64 8]) (by simp [results, Tryz.results22, go_sem]) rfl ⟨rfl, rfl⟩
end
/-- What the closure of QueueBegins leaves. -/
def CbP (Q : Value → Int → World → Prop) (e : Ending) (w' : World) : Prop := ∃ x er, e = .returned (.tuple #[x, .int .i64 er]) ∧ Q x er w'
theorem RefP.cb {er : Int} {w w' : World} {e : Ending} (h : RefP er w e w') : CbP (fun x er' w' => x = .pointer none ∧ er' = er ∧ Below w.heap.size w w') e w' := ⟨_, _, h.1, rfl, rfl, h.2⟩
/-- What a call that is prepared leaves. -/
def Prep (q d p lines th : Nat) (ins : Bool) (val : Int) (bs : Nat → Option Nat) (w : World) (x : Value) (er : Int) (w' : World) : Prop :=
  er = 0 ∧ ∃ a, x = .pointer (some ⟨a, 0, none⟩) ∧ w.heap.size ≤ a ∧ CB w' a 106 (qocell0 q th ins val) ∧ CB w' q 93 (qcells d p 2048 lines (fun i => if i = th then some a else bs i)) ∧ Ch (At q) w w'
theorem QbPost.cb {q d p lines th : Nat} {ins : Bool} {val : Int} {bs : Nat → Option Nat} {w w' : World} {e : Ending} (h : QbPost q d p lines th ins val bs w e w') : CbP (Prep q d p lines th ins val bs w) e w' := by
  obtain ⟨a, h1, h2⟩ := h
  exact ⟨_, _, h1, rfl, a, rfl, h2⟩
set_option maxRecDepth 100000 in
theorem fBegins1c {Q : Value → Int → World → Prop} (w : World) (put : Bool) (z v : Int) (gp gq gt gv q : Nat) (cp : w.cell? ⟨gp, 0, none⟩ = some (.bool put)) (cq : w.cell? ⟨gq, 0, none⟩ = some (.pointer (some ⟨q, 0, none⟩))) (ct : w.cell? ⟨gt, 0, none⟩ = some (.int .i64 z)) (cv : w.cell? ⟨gv, 0, none⟩ = some (.int .u64 v))
    (HE : put = true → Calls Tryz.prog 19 #[.pointer (some ⟨q, 0, none⟩), .int .i64 z, .int .u64 v] w (CbP Q)) (HD : put = false → Calls Tryz.prog 20 #[.pointer (some ⟨q, 0, none⟩), .int .i64 z] w (CbP Q)) :
    Calls Tryz.prog 18 #[.pointer (some ⟨gp, 0, none⟩), .pointer (some ⟨gq, 0, none⟩), .pointer (some ⟨gt, 0, none⟩), .pointer (some ⟨gv, 0, none⟩)] w (CbP Q) := by
  cases put with
  | true =>
    have HC := Lib.hid (HE rfl)
    clear HE HD
    go_enter Tryz.func18, Tryz.ntmps18
    go_wp2_with (go_at_call 19; (with_reducible refine HC.out.mono ?_); rintro e w1 ⟨x, er, rfl, hq⟩; have HQ := Lib.hid hq; clear hq)
    exact bodyPost_ret (v := .tuple #[x, .int .i64 er]) (by simp [results, Tryz.results18, go_sem]) rfl ⟨x, er, rfl, HQ.out⟩
  | false =>
    have HC := Lib.hid (HD rfl)
    clear HE HD
    go_enter Tryz.func18, Tryz.ntmps18
    go_wp2_with (go_at_call 20; (with_reducible refine HC.out.mono ?_); rintro e w1 ⟨x, er, rfl, hq⟩; have HQ := Lib.hid hq; clear hq)
    exact bodyPost_ret (v := .tuple #[x, .int .i64 er]) (by simp [results, Tryz.results18, go_sem]) rfl ⟨x, er, rfl, HQ.out⟩
set_option maxRecDepth 100000 in
set_option maxHeartbeats 8000000 in
theorem beginsBad (w : World) (hT : Tab w) (z v : Int) (put : Bool) (hz : -9223372036854775808 ≤ z ∧ z < 9223372036854775808) (hv : 0 ≤ v ∧ v < 18446744073709551616)
    (hc : (z < 0 ∨ 8 ≤ z) ∨ (0 ≤ z ∧ z < 8 ∧ put = true ∧ 1099511627776 ≤ v)) :
    Calls Tryz.prog 5 #[.int .i64 z, .int .u64 v, .bool put] w fun e w' => e = .returned (.bool true) ∧ Below w.heap.size w w' := by
  obtain ⟨er, her, hrf⟩ : ∃ er : Int, (er = 1 ∧ (z < 0 ∨ 8 ≤ z) ∨ er = 2 ∧ 0 ≤ z ∧ z < 8 ∧ put = true ∧ 1099511627776 ≤ v) ∧ True := by
    rcases hc with hc | hc
    · exact ⟨1, .inl ⟨rfl, hc⟩, trivial⟩
    · exact ⟨2, .inr ⟨rfl, hc⟩, trivial⟩
  have HRE : Hid (∀ (W : World) (K : Nat → Prop) (p d q lines : Nat) (t : Nat → Nat) (size : Int) (σ : PwS), PMx K p d t 0 32 size W σ → CB W q 93 (qcells d p 2048 lines (fun _ => none)) → ∀ (gp gq gt gv : Nat), W.cell? ⟨gp, 0, none⟩ = some (.bool put) → W.cell? ⟨gq, 0, none⟩ = some (.pointer (some ⟨q, 0, none⟩)) → W.cell? ⟨gt, 0, none⟩ = some (.int .i64 z) → W.cell? ⟨gv, 0, none⟩ = some (.int .u64 v) →
      Calls Tryz.prog 18 #[.pointer (some ⟨gp, 0, none⟩), .pointer (some ⟨gq, 0, none⟩), .pointer (some ⟨gt, 0, none⟩), .pointer (some ⟨gv, 0, none⟩)] W (CbP (fun x er' w' => x = .pointer none ∧ er' = er ∧ Below W.heap.size W w'))) := fun W K p d q lines t size σ H hq gp gq gt gv c1 c2 c3 c4 => by
    refine fBegins1c W put z v gp gq gt gv q c1 c2 c3 c4 (fun hp => (quEnqBad H hq z v er hv.1 ?_).mono (fun e w' h => h.cb)) (fun hp => (quDeqBad H hq z er ?_).mono (fun e w' h => h.cb))
    · rcases her with ⟨h1, h2⟩ | ⟨h1, h2, h3, h4, h5⟩
      · exact .inl ⟨h1, h2⟩
      · exact .inr (.inl ⟨h1, h2, h3, h5⟩)
    · rcases her with ⟨h1, h2⟩ | ⟨h1, h2, h3, h4, h5⟩
      · exact .inl ⟨h1, h2⟩
      · rw [hp] at h4; cases h4
  have HT := Lib.hid hT
  have HBE := Lib.hid (fun (W : World) (hW : Below w.heap.size w W) => fBegin30 W (HT.out.below hW) 0 (by omega))
  have HAW := Lib.hid (fun (W : World) (hW : Below w.heap.size w W) => fawake30 W (HT.out.below hW))
  clear hT hv hz hc hrf
  have hcase : (er = 1 ∧ z < 0) ∨ (er = 1 ∧ ¬ z < 0 ∧ 8 ≤ z) ∨ (er = 2 ∧ ¬ z < 0 ∧ ¬ 8 ≤ z ∧ put = true ∧ 1099511627776 ≤ v) := by
    rcases her with ⟨h1, h2⟩ | ⟨h1, h2, h3, h4, h5⟩
    · by_cases h : z < 0
      · exact .inl ⟨h1, h⟩
      · exact .inr (.inl ⟨h1, h, by omega⟩)
    · exact .inr (.inr ⟨h1, by omega, by omega, h4, h5⟩)
  clear her
  rcases hcase with ⟨rfl, h1⟩ | ⟨rfl, h1, h2⟩ | ⟨rfl, h1, h2, rfl, h3⟩
  case inl =>
    go_enter Tryz.func5, Tryz.ntmps5
    go_wp2_with (first
      | (go_at_call 10; refine (HBE.out _ (by (repeat (first | with_reducible (first | exact Below.refl _ _ | refine bl_alloc ?_ _ | refine bl_drew ?_ | refine bl_drewN ?_ _ | refine bl_bx ?_ _ | exact BX.below _ | refine bl_set ?_ (by first | (exact Nat.le_refl _) | (simp; done) | (simp; omega)) _) | assumption)))).mono ?_; rintro e w1 ⟨d, p, q, n, lines, t, σ, N, xs, L, rfl, hl, hq1, hq2, hQ, hW, hN, hb1⟩; have y0 : w1.cell? ⟨w.heap.size, 0, none⟩ = some (.int .i64 z) := (hb1.cell (p := ⟨w.heap.size, 0, none⟩) (by first | (simp; done) | (simp; omega) | omega)).trans (by go_simp); have y1 : w1.cell? ⟨w.heap.size + 1, 0, none⟩ = some (.int .u64 v) := (hb1.cell (p := ⟨w.heap.size + 1, 0, none⟩) (by first | (simp; done) | (simp; omega) | omega)).trans (by go_simp); have y2 : w1.cell? ⟨w.heap.size + 1 + 1, 0, none⟩ = some (.bool put) := (hb1.cell (p := ⟨w.heap.size + 1 + 1, 0, none⟩) (by first | (simp; done) | (simp; omega) | omega)).trans (by go_simp); have yl : w.heap.size + 1 + 1 < w1.heap.size := Nat.lt_of_lt_of_le (by first | (simp; done) | (simp; omega) | omega) hb1.size; have yl1 : w.heap.size + 1 < w1.heap.size := (by omega); have yl0 : w.heap.size < w1.heap.size := (by omega); have HQ := Lib.hid hQ; have HBY : Hid (Below w.heap.size w w1) := (by show Below _ _ _; exact (by (repeat (first | with_reducible (first | exact Below.refl _ _ | refine bl_alloc ?_ _ | refine bl_drew ?_ | refine bl_drewN ?_ _ | refine bl_bx ?_ _ | exact BX.below _ | refine bl_set ?_ (by first | (exact Nat.le_refl _) | (simp; done) | (simp; omega)) _) | assumption)) : Below w.heap.size w _).trans (hb1.mono (by first | (simp; done) | (simp; omega) | omega))); clear hl hq1 hq2 hQ hW hN hb1)
      | (go_at_call 11; refine (HAW.out _ (HBY.out.trans ((by (repeat (first | with_reducible (first | exact Below.refl _ _ | refine bl_alloc ?_ _ | refine bl_drew ?_ | refine bl_drewN ?_ _ | refine bl_bx ?_ _ | exact BX.below _ | refine bl_set ?_ (by first | (exact Nat.le_refl _) | (simp; done) | (simp; omega)) _) | assumption)) : Below w1.heap.size w1 _).mono HBY.out.size))).mono ?_; rintro e w2 ⟨rfl, hb2⟩; have hb3 : Below w1.heap.size w1 w2 := (by (repeat (first | with_reducible (first | exact Below.refl _ _ | refine bl_alloc ?_ _ | refine bl_drew ?_ | refine bl_drewN ?_ _ | refine bl_bx ?_ _ | exact BX.below _ | refine bl_set ?_ (by first | (exact Nat.le_refl _) | (simp; done) | (simp; omega)) _) | assumption)) : Below w1.heap.size w1 _).trans (hb2.mono (by first | (simp; done) | (simp; omega) | omega)); have x0 : w2.cell? ⟨w.heap.size, 0, none⟩ = some (.int .i64 z) := (hb3.cell (p := ⟨w.heap.size, 0, none⟩) yl0).trans y0; have x1 : w2.cell? ⟨w.heap.size + 1, 0, none⟩ = some (.int .u64 v) := (hb3.cell (p := ⟨w.heap.size + 1, 0, none⟩) yl1).trans y1; have x2 : w2.cell? ⟨w.heap.size + 1 + 1, 0, none⟩ = some (.bool put) := (hb3.cell (p := ⟨w.heap.size + 1 + 1, 0, none⟩) yl).trans y2; have x8 : w2.cell? ⟨w1.heap.size, 0, none⟩ = some (.pointer (some ⟨q, 0, none⟩)) := (hb2.cell (p := ⟨w1.heap.size, 0, none⟩) (by first | (simp; done) | (simp; omega) | omega)).trans (by go_simp); have HPM := Lib.hid (HQ.out.pm.bl0 hb3); have HQC := Lib.hid (HQ.out.hq.below hb3); have HB2 := Lib.hid (HBY.out.trans (hb3.mono HBY.out.size)); have xl : w1.heap.size < w2.heap.size := Nat.lt_of_lt_of_le (by first | (simp; done) | (simp; omega) | omega) hb2.size; clear hb2 hb3 y0 y1 y2)
      | (go_at_call 17; (first | (refine HPM.out.exec30.mono ?_) | (refine (HPM.out.bl0 HB4.out).exec30.mono ?_)); rintro e w' ⟨rfl, rfl⟩)
      | (go_at_call 18; refine (HRE.out _ _ p d q lines t _ σ HPM.out HQC.out _ _ _ _ x2 x8 x0 x1).mono ?_; rintro e w4 ⟨_, _, rfl, rfl, rfl, hb⟩; have HB4 := Lib.hid hb; have u0 : w4.cell? ⟨w.heap.size, 0, none⟩ = some (.int .i64 z) := (hb.cell (p := ⟨w.heap.size, 0, none⟩) (Nat.lt_trans yl0 xl)).trans x0; have u1 : w4.cell? ⟨w.heap.size + 1, 0, none⟩ = some (.int .u64 v) := (hb.cell (p := ⟨w.heap.size + 1, 0, none⟩) (Nat.lt_trans yl1 xl)).trans x1; have u2 : w4.cell? ⟨w.heap.size + 1 + 1, 0, none⟩ = some (.bool put) := (hb.cell (p := ⟨w.heap.size + 1 + 1, 0, none⟩) (Nat.lt_trans yl xl)).trans x2; clear hb))
    exact bodyPost_ret (v := .bool true) (by simp [results, Tryz.results5, go_sem]) rfl ⟨rfl, HB2.out.trans (HB4.out.mono HB2.out.size)⟩
  case inr.inl =>
    go_enter Tryz.func5, Tryz.ntmps5
    go_wp2_with (first
      | (go_at_call 10; refine (HBE.out _ (by (repeat (first | with_reducible (first | exact Below.refl _ _ | refine bl_alloc ?_ _ | refine bl_drew ?_ | refine bl_drewN ?_ _ | refine bl_bx ?_ _ | exact BX.below _ | refine bl_set ?_ (by first | (exact Nat.le_refl _) | (simp; done) | (simp; omega)) _) | assumption)))).mono ?_; rintro e w1 ⟨d, p, q, n, lines, t, σ, N, xs, L, rfl, hl, hq1, hq2, hQ, hW, hN, hb1⟩; have y0 : w1.cell? ⟨w.heap.size, 0, none⟩ = some (.int .i64 z) := (hb1.cell (p := ⟨w.heap.size, 0, none⟩) (by first | (simp; done) | (simp; omega) | omega)).trans (by go_simp); have y1 : w1.cell? ⟨w.heap.size + 1, 0, none⟩ = some (.int .u64 v) := (hb1.cell (p := ⟨w.heap.size + 1, 0, none⟩) (by first | (simp; done) | (simp; omega) | omega)).trans (by go_simp); have y2 : w1.cell? ⟨w.heap.size + 1 + 1, 0, none⟩ = some (.bool put) := (hb1.cell (p := ⟨w.heap.size + 1 + 1, 0, none⟩) (by first | (simp; done) | (simp; omega) | omega)).trans (by go_simp); have yl : w.heap.size + 1 + 1 < w1.heap.size := Nat.lt_of_lt_of_le (by first | (simp; done) | (simp; omega) | omega) hb1.size; have yl1 : w.heap.size + 1 < w1.heap.size := (by omega); have yl0 : w.heap.size < w1.heap.size := (by omega); have HQ := Lib.hid hQ; have HBY : Hid (Below w.heap.size w w1) := (by show Below _ _ _; exact (by (repeat (first | with_reducible (first | exact Below.refl _ _ | refine bl_alloc ?_ _ | refine bl_drew ?_ | refine bl_drewN ?_ _ | refine bl_bx ?_ _ | exact BX.below _ | refine bl_set ?_ (by first | (exact Nat.le_refl _) | (simp; done) | (simp; omega)) _) | assumption)) : Below w.heap.size w _).trans (hb1.mono (by first | (simp; done) | (simp; omega) | omega))); clear hl hq1 hq2 hQ hW hN hb1)
      | (go_at_call 11; refine (HAW.out _ (HBY.out.trans ((by (repeat (first | with_reducible (first | exact Below.refl _ _ | refine bl_alloc ?_ _ | refine bl_drew ?_ | refine bl_drewN ?_ _ | refine bl_bx ?_ _ | exact BX.below _ | refine bl_set ?_ (by first | (exact Nat.le_refl _) | (simp; done) | (simp; omega)) _) | assumption)) : Below w1.heap.size w1 _).mono HBY.out.size))).mono ?_; rintro e w2 ⟨rfl, hb2⟩; have hb3 : Below w1.heap.size w1 w2 := (by (repeat (first | with_reducible (first | exact Below.refl _ _ | refine bl_alloc ?_ _ | refine bl_drew ?_ | refine bl_drewN ?_ _ | refine bl_bx ?_ _ | exact BX.below _ | refine bl_set ?_ (by first | (exact Nat.le_refl _) | (simp; done) | (simp; omega)) _) | assumption)) : Below w1.heap.size w1 _).trans (hb2.mono (by first | (simp; done) | (simp; omega) | omega)); have x0 : w2.cell? ⟨w.heap.size, 0, none⟩ = some (.int .i64 z) := (hb3.cell (p := ⟨w.heap.size, 0, none⟩) yl0).trans y0; have x1 : w2.cell? ⟨w.heap.size + 1, 0, none⟩ = some (.int .u64 v) := (hb3.cell (p := ⟨w.heap.size + 1, 0, none⟩) yl1).trans y1; have x2 : w2.cell? ⟨w.heap.size + 1 + 1, 0, none⟩ = some (.bool put) := (hb3.cell (p := ⟨w.heap.size + 1 + 1, 0, none⟩) yl).trans y2; have x8 : w2.cell? ⟨w1.heap.size, 0, none⟩ = some (.pointer (some ⟨q, 0, none⟩)) := (hb2.cell (p := ⟨w1.heap.size, 0, none⟩) (by first | (simp; done) | (simp; omega) | omega)).trans (by go_simp); have HPM := Lib.hid (HQ.out.pm.bl0 hb3); have HQC := Lib.hid (HQ.out.hq.below hb3); have HB2 := Lib.hid (HBY.out.trans (hb3.mono HBY.out.size)); have xl : w1.heap.size < w2.heap.size := Nat.lt_of_lt_of_le (by first | (simp; done) | (simp; omega) | omega) hb2.size; clear hb2 hb3 y0 y1 y2)
      | (go_at_call 17; (first | (refine HPM.out.exec30.mono ?_) | (refine (HPM.out.bl0 HB4.out).exec30.mono ?_)); rintro e w' ⟨rfl, rfl⟩)
      | (go_at_call 18; refine (HRE.out _ _ p d q lines t _ σ HPM.out HQC.out _ _ _ _ x2 x8 x0 x1).mono ?_; rintro e w4 ⟨_, _, rfl, rfl, rfl, hb⟩; have HB4 := Lib.hid hb; have u0 : w4.cell? ⟨w.heap.size, 0, none⟩ = some (.int .i64 z) := (hb.cell (p := ⟨w.heap.size, 0, none⟩) (Nat.lt_trans yl0 xl)).trans x0; have u1 : w4.cell? ⟨w.heap.size + 1, 0, none⟩ = some (.int .u64 v) := (hb.cell (p := ⟨w.heap.size + 1, 0, none⟩) (Nat.lt_trans yl1 xl)).trans x1; have u2 : w4.cell? ⟨w.heap.size + 1 + 1, 0, none⟩ = some (.bool put) := (hb.cell (p := ⟨w.heap.size + 1 + 1, 0, none⟩) (Nat.lt_trans yl xl)).trans x2; clear hb))
    exact bodyPost_ret (v := .bool true) (by simp [results, Tryz.results5, go_sem]) rfl ⟨rfl, HB2.out.trans (HB4.out.mono HB2.out.size)⟩
  case inr.inr =>
    go_enter Tryz.func5, Tryz.ntmps5
    go_wp2_with (first
      | (go_at_call 10; refine (HBE.out _ (by (repeat (first | with_reducible (first | exact Below.refl _ _ | refine bl_alloc ?_ _ | refine bl_drew ?_ | refine bl_drewN ?_ _ | refine bl_bx ?_ _ | exact BX.below _ | refine bl_set ?_ (by first | (exact Nat.le_refl _) | (simp; done) | (simp; omega)) _) | assumption)))).mono ?_; rintro e w1 ⟨d, p, q, n, lines, t, σ, N, xs, L, rfl, hl, hq1, hq2, hQ, hW, hN, hb1⟩; have y0 : w1.cell? ⟨w.heap.size, 0, none⟩ = some (.int .i64 z) := (hb1.cell (p := ⟨w.heap.size, 0, none⟩) (by first | (simp; done) | (simp; omega) | omega)).trans (by go_simp); have y1 : w1.cell? ⟨w.heap.size + 1, 0, none⟩ = some (.int .u64 v) := (hb1.cell (p := ⟨w.heap.size + 1, 0, none⟩) (by first | (simp; done) | (simp; omega) | omega)).trans (by go_simp); have y2 : w1.cell? ⟨w.heap.size + 1 + 1, 0, none⟩ = some (.bool true) := (hb1.cell (p := ⟨w.heap.size + 1 + 1, 0, none⟩) (by first | (simp; done) | (simp; omega) | omega)).trans (by go_simp); have yl : w.heap.size + 1 + 1 < w1.heap.size := Nat.lt_of_lt_of_le (by first | (simp; done) | (simp; omega) | omega) hb1.size; have yl1 : w.heap.size + 1 < w1.heap.size := (by omega); have yl0 : w.heap.size < w1.heap.size := (by omega); have HQ := Lib.hid hQ; have HBY : Hid (Below w.heap.size w w1) := (by show Below _ _ _; exact (by (repeat (first | with_reducible (first | exact Below.refl _ _ | refine bl_alloc ?_ _ | refine bl_drew ?_ | refine bl_drewN ?_ _ | refine bl_bx ?_ _ | exact BX.below _ | refine bl_set ?_ (by first | (exact Nat.le_refl _) | (simp; done) | (simp; omega)) _) | assumption)) : Below w.heap.size w _).trans (hb1.mono (by first | (simp; done) | (simp; omega) | omega))); clear hl hq1 hq2 hQ hW hN hb1)
      | (go_at_call 11; refine (HAW.out _ (HBY.out.trans ((by (repeat (first | with_reducible (first | exact Below.refl _ _ | refine bl_alloc ?_ _ | refine bl_drew ?_ | refine bl_drewN ?_ _ | refine bl_bx ?_ _ | exact BX.below _ | refine bl_set ?_ (by first | (exact Nat.le_refl _) | (simp; done) | (simp; omega)) _) | assumption)) : Below w1.heap.size w1 _).mono HBY.out.size))).mono ?_; rintro e w2 ⟨rfl, hb2⟩; have hb3 : Below w1.heap.size w1 w2 := (by (repeat (first | with_reducible (first | exact Below.refl _ _ | refine bl_alloc ?_ _ | refine bl_drew ?_ | refine bl_drewN ?_ _ | refine bl_bx ?_ _ | exact BX.below _ | refine bl_set ?_ (by first | (exact Nat.le_refl _) | (simp; done) | (simp; omega)) _) | assumption)) : Below w1.heap.size w1 _).trans (hb2.mono (by first | (simp; done) | (simp; omega) | omega)); have x0 : w2.cell? ⟨w.heap.size, 0, none⟩ = some (.int .i64 z) := (hb3.cell (p := ⟨w.heap.size, 0, none⟩) yl0).trans y0; have x1 : w2.cell? ⟨w.heap.size + 1, 0, none⟩ = some (.int .u64 v) := (hb3.cell (p := ⟨w.heap.size + 1, 0, none⟩) yl1).trans y1; have x2 : w2.cell? ⟨w.heap.size + 1 + 1, 0, none⟩ = some (.bool true) := (hb3.cell (p := ⟨w.heap.size + 1 + 1, 0, none⟩) yl).trans y2; have x8 : w2.cell? ⟨w1.heap.size, 0, none⟩ = some (.pointer (some ⟨q, 0, none⟩)) := (hb2.cell (p := ⟨w1.heap.size, 0, none⟩) (by first | (simp; done) | (simp; omega) | omega)).trans (by go_simp); have HPM := Lib.hid (HQ.out.pm.bl0 hb3); have HQC := Lib.hid (HQ.out.hq.below hb3); have HB2 := Lib.hid (HBY.out.trans (hb3.mono HBY.out.size)); have xl : w1.heap.size < w2.heap.size := Nat.lt_of_lt_of_le (by first | (simp; done) | (simp; omega) | omega) hb2.size; clear hb2 hb3 y0 y1 y2)
      | (go_at_call 17; (first | (refine HPM.out.exec30.mono ?_) | (refine (HPM.out.bl0 HB4.out).exec30.mono ?_)); rintro e w' ⟨rfl, rfl⟩)
      | (go_at_call 18; refine (HRE.out _ _ p d q lines t _ σ HPM.out HQC.out _ _ _ _ x2 x8 x0 x1).mono ?_; rintro e w4 ⟨_, _, rfl, rfl, rfl, hb⟩; have HB4 := Lib.hid hb; have u0 : w4.cell? ⟨w.heap.size, 0, none⟩ = some (.int .i64 z) := (hb.cell (p := ⟨w.heap.size, 0, none⟩) (Nat.lt_trans yl0 xl)).trans x0; have u1 : w4.cell? ⟨w.heap.size + 1, 0, none⟩ = some (.int .u64 v) := (hb.cell (p := ⟨w.heap.size + 1, 0, none⟩) (Nat.lt_trans yl1 xl)).trans x1; have u2 : w4.cell? ⟨w.heap.size + 1 + 1, 0, none⟩ = some (.bool true) := (hb.cell (p := ⟨w.heap.size + 1 + 1, 0, none⟩) (Nat.lt_trans yl xl)).trans x2; clear hb))
    exact bodyPost_ret (v := .bool true) (by simp [results, Tryz.results5, go_sem]) rfl ⟨rfl, HB2.out.trans (HB4.out.mono HB2.out.size)⟩
set_option maxRecDepth 100000 in
set_option maxHeartbeats 8000000 in
theorem beginsGood (w : World) (hT : Tab w) (z v : Int) (put : Bool) (hv : 0 ≤ v ∧ v < 18446744073709551616) (h0 : 0 ≤ z) (h8 : z < 8) (hp : put = true → v < 1099511627776) :
    Calls Tryz.prog 5 #[.int .i64 z, .int .u64 v, .bool put] w fun e w' => e = .returned (.bool true) ∧ Below w.heap.size w w' := by
  obtain ⟨th, hth⟩ : ∃ th : Nat, z = (th : Int) := ⟨z.toNat, by omega⟩
  obtain ⟨tn, htn⟩ : ∃ tn : Nat, tn = (th + 1) % 8 := ⟨_, rfl⟩
  obtain ⟨val, hval⟩ : ∃ val : Int, val = if put then v else 0 := ⟨_, rfl⟩
  have hvr : 0 ≤ val ∧ val < 1099511627776 := by
    cases put with
    | true => rw [if_pos rfl] at hval; have := hp rfl; omega
    | false => rw [if_neg (by simp)] at hval; omega
  have e1 : IntKind.i64.wrap (z + 1) = z + 1 := IntWalk.i64_in _ (by omega)
  have e2 : (z + 1).tmod 8 = (tn : Int) := by rw [Int.tmod_eq_emod_of_nonneg (by omega)]; omega
  have HC1 : Hid (∀ (W : World) (K : Nat → Prop) (p d q lines : Nat) (t : Nat → Nat) (size : Int) (σ : PwS), PMx K p d t 0 32 size W σ → CB W q 93 (qcells d p 2048 lines (fun _ => none)) → (σ.dev.thr th).err = 0 → ∀ (gp gq gt gv : Nat), W.cell? ⟨gp, 0, none⟩ = some (.bool put) → W.cell? ⟨gq, 0, none⟩ = some (.pointer (some ⟨q, 0, none⟩)) → W.cell? ⟨gt, 0, none⟩ = some (.int .i64 z) → W.cell? ⟨gv, 0, none⟩ = some (.int .u64 v) →
      Calls Tryz.prog 18 #[.pointer (some ⟨gp, 0, none⟩), .pointer (some ⟨gq, 0, none⟩), .pointer (some ⟨gt, 0, none⟩), .pointer (some ⟨gv, 0, none⟩)] W (CbP (Prep q d p lines th put val (fun _ => none) W))) := fun W K p d q lines t size σ H hq he gp gq gt gv c1 c2 c3 c4 => by
    refine fBegins1c W put z v gp gq gt gv q c1 c2 c3 c4 (fun hpt => ?_) (fun hpf => ?_)
    · rw [hth]
      subst hpt
      rw [if_pos rfl] at hval
      rw [hval] at hvr ⊢
      exact (quEnq H hq th (by omega) rfl he v hvr).mono (fun e w' h => h.cb)
    · rw [hth]
      subst hpf
      rw [if_neg (by simp)] at hval
      rw [hval]
      exact (quDeq H hq th (by omega) rfl he).mono (fun e w' h => h.cb)
  have HC2 : Hid (∀ (W : World) (K : Nat → Prop) (p d q lines a : Nat) (t : Nat → Nat) (size : Int) (σ : PwS), PMx K p d t 0 32 size W σ → CB W q 93 (qcells d p 2048 lines (fun i => if i = th then some a else none)) → (σ.dev.thr th).err = 0 → ∀ (gp gq gt gv : Nat), W.cell? ⟨gp, 0, none⟩ = some (.bool put) → W.cell? ⟨gq, 0, none⟩ = some (.pointer (some ⟨q, 0, none⟩)) → W.cell? ⟨gt, 0, none⟩ = some (.int .i64 z) → W.cell? ⟨gv, 0, none⟩ = some (.int .u64 v) →
      Calls Tryz.prog 18 #[.pointer (some ⟨gp, 0, none⟩), .pointer (some ⟨gq, 0, none⟩), .pointer (some ⟨gt, 0, none⟩), .pointer (some ⟨gv, 0, none⟩)] W (CbP (fun x er' w' => x = .pointer none ∧ er' = 7 ∧ Below W.heap.size W w'))) := fun W K p d q lines a t size σ H hq he gp gq gt gv c1 c2 c3 c4 => by
    refine fBegins1c W put z v gp gq gt gv q c1 c2 c3 c4 (fun hpt => (quEnqBad H hq z v 7 hv.1 (.inr (.inr ⟨rfl, hp hpt, th, a, hth, by omega, if_pos rfl, he⟩))).mono (fun e w' h => h.cb)) (fun hpf => (quDeqBad H hq z 7 (.inr (.inr ⟨rfl, by omega, th, a, hth, by omega, if_pos rfl, he⟩))).mono (fun e w' h => h.cb))
  have HC3 : Hid (∀ (W : World) (K : Nat → Prop) (p d q lines a : Nat) (t : Nat → Nat) (size : Int) (σ : PwS), PMx K p d t 0 32 size W σ → CB W q 93 (qcells d p 2048 lines (fun i => if i = th then some a else none)) → (σ.dev.thr tn).err = 0 →
      Calls Tryz.prog 20 #[.pointer (some ⟨q, 0, none⟩), .int .i64 (tn : Int)] W (QbPost q d p lines tn false 0 (fun i => if i = th then some a else none) W)) := fun W K p d q lines a t size σ H hq he =>
    quDeq H hq tn (by omega) (if_neg (by omega)) he
  have HT := Lib.hid hT
  have HBE := Lib.hid (fun (W : World) (hW : Below w.heap.size w W) => fBegin30 W (HT.out.below hW) 0 (by omega))
  have HAW := Lib.hid (fun (W : World) (hW : Below w.heap.size w W) => fawake30 W (HT.out.below hW))
  have hz0 : ¬ z < 0 := by omega
  have hz8 : ¬ 8 ≤ z := by omega
  have hvl : put = true → ¬ 1099511627776 ≤ v := fun h => by have := hp h; omega
  clear hT hv h0 h8 hth htn hval hvr hp
  cases put
  case false =>
    have hvl2 := hvl
    simp only [forall_const, Bool.false_eq_true, false_implies] at hvl2
    clear hvl
    go_enter Tryz.func5, Tryz.ntmps5
    go_wp2_with (first
      | (go_at_call 10; refine (HBE.out _ (by (repeat (first | with_reducible (first | exact Below.refl _ _ | refine bl_alloc ?_ _ | refine bl_drew ?_ | refine bl_drewN ?_ _ | refine bl_bx ?_ _ | exact BX.below _ | refine bl_set ?_ (by first | (exact Nat.le_refl _) | (simp; done) | (simp; omega)) _) | assumption)))).mono ?_; rintro e w1 ⟨d, p, q, n, lines, t, σ, N, xs, L, rfl, hl, hq1, hq2, hQ, hW, hN, hb1⟩; have y0 : w1.cell? ⟨w.heap.size, 0, none⟩ = some (.int .i64 z) := (hb1.cell (p := ⟨w.heap.size, 0, none⟩) (by first | (simp; done) | (simp; omega) | omega)).trans (by go_simp); have y1 : w1.cell? ⟨w.heap.size + 1, 0, none⟩ = some (.int .u64 v) := (hb1.cell (p := ⟨w.heap.size + 1, 0, none⟩) (by first | (simp; done) | (simp; omega) | omega)).trans (by go_simp); have y2 : w1.cell? ⟨w.heap.size + 1 + 1, 0, none⟩ = some (.bool false) := (hb1.cell (p := ⟨w.heap.size + 1 + 1, 0, none⟩) (by first | (simp; done) | (simp; omega) | omega)).trans (by go_simp); have yl : w.heap.size + 1 + 1 < w1.heap.size := Nat.lt_of_lt_of_le (by first | (simp; done) | (simp; omega) | omega) hb1.size; have yl1 : w.heap.size + 1 < w1.heap.size := (by omega); have yl0 : w.heap.size < w1.heap.size := (by omega); have yq : w.heap.size + 1 + 1 < q := (by simp at hq1; omega); have HQ := Lib.hid hQ; have HER : Hid (∀ j, (σ.dev.thr j).err = 0) := hW.inv.on.err; have HKQ : Hid (rolB _ q q ≠ 0) := (by show rolB _ q q ≠ 0; rw [hQ.kq]; omega); have HBY : Hid (Below w.heap.size w w1) := (by show Below _ _ _; exact (by (repeat (first | with_reducible (first | exact Below.refl _ _ | refine bl_alloc ?_ _ | refine bl_drew ?_ | refine bl_drewN ?_ _ | refine bl_bx ?_ _ | exact BX.below _ | refine bl_set ?_ (by first | (exact Nat.le_refl _) | (simp; done) | (simp; omega)) _) | assumption)) : Below w.heap.size w _).trans (hb1.mono (by first | (simp; done) | (simp; omega) | omega))); clear hl hq1 hQ hW hN hb1)
      | (go_at_call 11; refine (HAW.out _ (HBY.out.trans ((by (repeat (first | with_reducible (first | exact Below.refl _ _ | refine bl_alloc ?_ _ | refine bl_drew ?_ | refine bl_drewN ?_ _ | refine bl_bx ?_ _ | exact BX.below _ | refine bl_set ?_ (by first | (exact Nat.le_refl _) | (simp; done) | (simp; omega)) _) | assumption)) : Below w1.heap.size w1 _).mono HBY.out.size))).mono ?_; rintro e w2 ⟨rfl, hb2⟩; have hb3 : Below w1.heap.size w1 w2 := (by (repeat (first | with_reducible (first | exact Below.refl _ _ | refine bl_alloc ?_ _ | refine bl_drew ?_ | refine bl_drewN ?_ _ | refine bl_bx ?_ _ | exact BX.below _ | refine bl_set ?_ (by first | (exact Nat.le_refl _) | (simp; done) | (simp; omega)) _) | assumption)) : Below w1.heap.size w1 _).trans (hb2.mono (by first | (simp; done) | (simp; omega) | omega)); have x0 : w2.cell? ⟨w.heap.size, 0, none⟩ = some (.int .i64 z) := (hb3.cell (p := ⟨w.heap.size, 0, none⟩) yl0).trans y0; have x1 : w2.cell? ⟨w.heap.size + 1, 0, none⟩ = some (.int .u64 v) := (hb3.cell (p := ⟨w.heap.size + 1, 0, none⟩) yl1).trans y1; have x2 : w2.cell? ⟨w.heap.size + 1 + 1, 0, none⟩ = some (.bool false) := (hb3.cell (p := ⟨w.heap.size + 1 + 1, 0, none⟩) yl).trans y2; have x8 : w2.cell? ⟨w1.heap.size, 0, none⟩ = some (.pointer (some ⟨q, 0, none⟩)) := (hb2.cell (p := ⟨w1.heap.size, 0, none⟩) (by first | (simp; done) | (simp; omega) | omega)).trans (by go_simp); have HPM := Lib.hid (HQ.out.pm.bl0 hb3); have HQC := Lib.hid (HQ.out.hq.below hb3); have HB2 := Lib.hid (HBY.out.trans (hb3.mono HBY.out.size)); have xl : w1.heap.size < w2.heap.size := Nat.lt_of_lt_of_le (by first | (simp; done) | (simp; omega) | omega) hb2.size; clear hb2 hb3 y0 y1 y2)
      | (go_at_call 17; (first | (refine HPM.out.exec30.mono ?_) | (refine HPM5.out.exec30.mono ?_)); rintro e w' ⟨rfl, rfl⟩)
      | (go_at_call 18; refine (HC1.out _ _ p d q lines t _ σ HPM.out HQC.out (HER.out _) _ _ _ _ x2 x8 x0 x1).mono ?_; rintro e w4 ⟨_, _, rfl, rfl, a, rfl, ha, hca, hcq, hC⟩; have HCA := Lib.hid hca; have HQ4 := Lib.hid hcq; have HC4 := Lib.hid hC; have HPM4 := Lib.hid (HPM.out.chK hC (fun b _ hb => by rw [show b = q from hb]; exact HKQ.out)); have u0 : w4.cell? ⟨w.heap.size, 0, none⟩ = some (.int .i64 z) := (hC.cells _ 0 (Nat.lt_trans yl0 xl) (fun hx => by have hx : w.heap.size = q := hx; omega)).trans x0; have u1 : w4.cell? ⟨w.heap.size + 1, 0, none⟩ = some (.int .u64 v) := (hC.cells _ 0 (Nat.lt_trans yl1 xl) (fun hx => by have hx : w.heap.size + 1 = q := hx; omega)).trans x1; have u2 : w4.cell? ⟨w.heap.size + 1 + 1, 0, none⟩ = some (.bool false) := (hC.cells _ 0 (Nat.lt_trans yl xl) (fun hx => by have hx : w.heap.size + 1 + 1 = q := hx; omega)).trans x2; have u8 : w4.cell? ⟨w1.heap.size, 0, none⟩ = some (.pointer (some ⟨q, 0, none⟩)) := (hC.cells _ 0 xl (fun hx => by have hx : w1.heap.size = q := hx; omega)).trans x8; have ul : w2.heap.size ≤ w4.heap.size := hC.size; clear ha hca hcq hC x0 x1 x2 x8)
      | (go_at_call 21; refine (qoNew HCA.out).1.mono ?_; rintro e w' ⟨rfl, rfl⟩)
      | (go_at_call 22; refine (qoNew HCA.out).2.mono ?_; rintro e w' ⟨rfl, rfl⟩)
      | (go_at_call 18; refine (HC2.out _ _ p d q lines a t _ σ HPM4.out HQ4.out (HER.out _) _ _ _ _ u2 u8 u0 u1).mono ?_; rintro e w5 ⟨_, _, rfl, rfl, rfl, hb⟩; have HB5 := Lib.hid hb; have HPM5a := Lib.hid (HPM4.out.bl0 hb); have HQ5 := Lib.hid (HQ4.out.below hb); have v0 : w5.cell? ⟨w.heap.size, 0, none⟩ = some (.int .i64 z) := (hb.cell (p := ⟨w.heap.size, 0, none⟩) (Nat.lt_of_lt_of_le (Nat.lt_trans yl0 xl) ul)).trans u0; have v8 : w5.cell? ⟨w1.heap.size, 0, none⟩ = some (.pointer (some ⟨q, 0, none⟩)) := (hb.cell (p := ⟨w1.heap.size, 0, none⟩) (Nat.lt_of_lt_of_le xl ul)).trans u8; clear hb u0 u1 u2 u8)
      | (go_at_call 20; refine (HC3.out _ _ p d q lines a t _ σ HPM5a.out HQ5.out (HER.out _)).mono ?_; rintro e w6 ⟨a6, rfl, h61, h62, h63, h64⟩; have HC6 := Lib.hid h64; have HPM5 := Lib.hid (HPM5a.out.chK h64 (fun b _ hb => by rw [show b = q from hb]; exact HKQ.out)); clear h61 h62 h63 h64))
    refine bodyPost_ret (v := .bool true) (by simp [results, Tryz.results5, go_sem]) rfl ⟨rfl, ?_⟩
    have hb4 := bl_ch HB2.out HC4.out (fun b hb => by have hb : b = q := hb; omega)
    have hb5 := hb4.trans (HB5.out.mono hb4.size)
    exact bl_ch hb5 HC6.out (fun b hb => by have hb : b = q := hb; omega)
  case true =>
    have hvl2 := hvl
    simp only [forall_const, Bool.false_eq_true, false_implies] at hvl2
    clear hvl
    go_enter Tryz.func5, Tryz.ntmps5
    go_wp2_with (first
      | (go_at_call 10; refine (HBE.out _ (by (repeat (first | with_reducible (first | exact Below.refl _ _ | refine bl_alloc ?_ _ | refine bl_drew ?_ | refine bl_drewN ?_ _ | refine bl_bx ?_ _ | exact BX.below _ | refine bl_set ?_ (by first | (exact Nat.le_refl _) | (simp; done) | (simp; omega)) _) | assumption)))).mono ?_; rintro e w1 ⟨d, p, q, n, lines, t, σ, N, xs, L, rfl, hl, hq1, hq2, hQ, hW, hN, hb1⟩; have y0 : w1.cell? ⟨w.heap.size, 0, none⟩ = some (.int .i64 z) := (hb1.cell (p := ⟨w.heap.size, 0, none⟩) (by first | (simp; done) | (simp; omega) | omega)).trans (by go_simp); have y1 : w1.cell? ⟨w.heap.size + 1, 0, none⟩ = some (.int .u64 v) := (hb1.cell (p := ⟨w.heap.size + 1, 0, none⟩) (by first | (simp; done) | (simp; omega) | omega)).trans (by go_simp); have y2 : w1.cell? ⟨w.heap.size + 1 + 1, 0, none⟩ = some (.bool true) := (hb1.cell (p := ⟨w.heap.size + 1 + 1, 0, none⟩) (by first | (simp; done) | (simp; omega) | omega)).trans (by go_simp); have yl : w.heap.size + 1 + 1 < w1.heap.size := Nat.lt_of_lt_of_le (by first | (simp; done) | (simp; omega) | omega) hb1.size; have yl1 : w.heap.size + 1 < w1.heap.size := (by omega); have yl0 : w.heap.size < w1.heap.size := (by omega); have yq : w.heap.size + 1 + 1 < q := (by simp at hq1; omega); have HQ := Lib.hid hQ; have HER : Hid (∀ j, (σ.dev.thr j).err = 0) := hW.inv.on.err; have HKQ : Hid (rolB _ q q ≠ 0) := (by show rolB _ q q ≠ 0; rw [hQ.kq]; omega); have HBY : Hid (Below w.heap.size w w1) := (by show Below _ _ _; exact (by (repeat (first | with_reducible (first | exact Below.refl _ _ | refine bl_alloc ?_ _ | refine bl_drew ?_ | refine bl_drewN ?_ _ | refine bl_bx ?_ _ | exact BX.below _ | refine bl_set ?_ (by first | (exact Nat.le_refl _) | (simp; done) | (simp; omega)) _) | assumption)) : Below w.heap.size w _).trans (hb1.mono (by first | (simp; done) | (simp; omega) | omega))); clear hl hq1 hQ hW hN hb1)
      | (go_at_call 11; refine (HAW.out _ (HBY.out.trans ((by (repeat (first | with_reducible (first | exact Below.refl _ _ | refine bl_alloc ?_ _ | refine bl_drew ?_ | refine bl_drewN ?_ _ | refine bl_bx ?_ _ | exact BX.below _ | refine bl_set ?_ (by first | (exact Nat.le_refl _) | (simp; done) | (simp; omega)) _) | assumption)) : Below w1.heap.size w1 _).mono HBY.out.size))).mono ?_; rintro e w2 ⟨rfl, hb2⟩; have hb3 : Below w1.heap.size w1 w2 := (by (repeat (first | with_reducible (first | exact Below.refl _ _ | refine bl_alloc ?_ _ | refine bl_drew ?_ | refine bl_drewN ?_ _ | refine bl_bx ?_ _ | exact BX.below _ | refine bl_set ?_ (by first | (exact Nat.le_refl _) | (simp; done) | (simp; omega)) _) | assumption)) : Below w1.heap.size w1 _).trans (hb2.mono (by first | (simp; done) | (simp; omega) | omega)); have x0 : w2.cell? ⟨w.heap.size, 0, none⟩ = some (.int .i64 z) := (hb3.cell (p := ⟨w.heap.size, 0, none⟩) yl0).trans y0; have x1 : w2.cell? ⟨w.heap.size + 1, 0, none⟩ = some (.int .u64 v) := (hb3.cell (p := ⟨w.heap.size + 1, 0, none⟩) yl1).trans y1; have x2 : w2.cell? ⟨w.heap.size + 1 + 1, 0, none⟩ = some (.bool true) := (hb3.cell (p := ⟨w.heap.size + 1 + 1, 0, none⟩) yl).trans y2; have x8 : w2.cell? ⟨w1.heap.size, 0, none⟩ = some (.pointer (some ⟨q, 0, none⟩)) := (hb2.cell (p := ⟨w1.heap.size, 0, none⟩) (by first | (simp; done) | (simp; omega) | omega)).trans (by go_simp); have HPM := Lib.hid (HQ.out.pm.bl0 hb3); have HQC := Lib.hid (HQ.out.hq.below hb3); have HB2 := Lib.hid (HBY.out.trans (hb3.mono HBY.out.size)); have xl : w1.heap.size < w2.heap.size := Nat.lt_of_lt_of_le (by first | (simp; done) | (simp; omega) | omega) hb2.size; clear hb2 hb3 y0 y1 y2)
      | (go_at_call 17; (first | (refine HPM.out.exec30.mono ?_) | (refine HPM5.out.exec30.mono ?_)); rintro e w' ⟨rfl, rfl⟩)
      | (go_at_call 18; refine (HC1.out _ _ p d q lines t _ σ HPM.out HQC.out (HER.out _) _ _ _ _ x2 x8 x0 x1).mono ?_; rintro e w4 ⟨_, _, rfl, rfl, a, rfl, ha, hca, hcq, hC⟩; have HCA := Lib.hid hca; have HQ4 := Lib.hid hcq; have HC4 := Lib.hid hC; have HPM4 := Lib.hid (HPM.out.chK hC (fun b _ hb => by rw [show b = q from hb]; exact HKQ.out)); have u0 : w4.cell? ⟨w.heap.size, 0, none⟩ = some (.int .i64 z) := (hC.cells _ 0 (Nat.lt_trans yl0 xl) (fun hx => by have hx : w.heap.size = q := hx; omega)).trans x0; have u1 : w4.cell? ⟨w.heap.size + 1, 0, none⟩ = some (.int .u64 v) := (hC.cells _ 0 (Nat.lt_trans yl1 xl) (fun hx => by have hx : w.heap.size + 1 = q := hx; omega)).trans x1; have u2 : w4.cell? ⟨w.heap.size + 1 + 1, 0, none⟩ = some (.bool true) := (hC.cells _ 0 (Nat.lt_trans yl xl) (fun hx => by have hx : w.heap.size + 1 + 1 = q := hx; omega)).trans x2; have u8 : w4.cell? ⟨w1.heap.size, 0, none⟩ = some (.pointer (some ⟨q, 0, none⟩)) := (hC.cells _ 0 xl (fun hx => by have hx : w1.heap.size = q := hx; omega)).trans x8; have ul : w2.heap.size ≤ w4.heap.size := hC.size; clear ha hca hcq hC x0 x1 x2 x8)
      | (go_at_call 21; refine (qoNew HCA.out).1.mono ?_; rintro e w' ⟨rfl, rfl⟩)
      | (go_at_call 22; refine (qoNew HCA.out).2.mono ?_; rintro e w' ⟨rfl, rfl⟩)
      | (go_at_call 18; refine (HC2.out _ _ p d q lines a t _ σ HPM4.out HQ4.out (HER.out _) _ _ _ _ u2 u8 u0 u1).mono ?_; rintro e w5 ⟨_, _, rfl, rfl, rfl, hb⟩; have HB5 := Lib.hid hb; have HPM5a := Lib.hid (HPM4.out.bl0 hb); have HQ5 := Lib.hid (HQ4.out.below hb); have v0 : w5.cell? ⟨w.heap.size, 0, none⟩ = some (.int .i64 z) := (hb.cell (p := ⟨w.heap.size, 0, none⟩) (Nat.lt_of_lt_of_le (Nat.lt_trans yl0 xl) ul)).trans u0; have v8 : w5.cell? ⟨w1.heap.size, 0, none⟩ = some (.pointer (some ⟨q, 0, none⟩)) := (hb.cell (p := ⟨w1.heap.size, 0, none⟩) (Nat.lt_of_lt_of_le xl ul)).trans u8; clear hb u0 u1 u2 u8)
      | (go_at_call 20; refine (HC3.out _ _ p d q lines a t _ σ HPM5a.out HQ5.out (HER.out _)).mono ?_; rintro e w6 ⟨a6, rfl, h61, h62, h63, h64⟩; have HC6 := Lib.hid h64; have HPM5 := Lib.hid (HPM5a.out.chK h64 (fun b _ hb => by rw [show b = q from hb]; exact HKQ.out)); clear h61 h62 h63 h64))
    refine bodyPost_ret (v := .bool true) (by simp [results, Tryz.results5, go_sem]) rfl ⟨rfl, ?_⟩
    have hb4 := bl_ch HB2.out HC4.out (fun b hb => by have hb : b = q := hb; omega)
    have hb5 := hb4.trans (HB5.out.mono hb4.size)
    exact bl_ch hb5 HC6.out (fun b hb => by have hb : b = q := hb; omega)
theorem law_QueueBegins (w : World) (hT : Tab w) (z v : Int) (put : Bool) (hz : -9223372036854775808 ≤ z ∧ z < 9223372036854775808) (hv : 0 ≤ v ∧ v < 18446744073709551616) :
    Calls Tryz.prog 5 #[.int .i64 z, .int .u64 v, .bool put] w fun e w' => e = .returned (.bool true) ∧ Below w.heap.size w w' := by
  by_cases h1 : z < 0 ∨ 8 ≤ z
  · exact beginsBad w hT z v put hz hv (.inl h1)
  · by_cases h2 : put = true ∧ 1099511627776 ≤ v
    · exact beginsBad w hT z v put hz hv (.inr ⟨by omega, by omega, h2.1, h2.2⟩)
    · exact beginsGood w hT z v put hv (by omega) (by omega) (fun h => by
        by_cases h3 : 1099511627776 ≤ v
        · exact absurd ⟨h, h3⟩ h2
        · omega)
end Go.Proofs.YtaefkelaffijbaaGreatDoor
