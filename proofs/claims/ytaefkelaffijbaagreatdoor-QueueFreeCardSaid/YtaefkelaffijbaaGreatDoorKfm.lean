/- A queue in memory: steps, machines, a run's threads (merged). -/
import Derived.Test.YtaefkelaffijbaaGreatDoorKfl
import Derived.Test.YtaefkelaffijbaaGreatDoorKfk
import Derived.Test.YtaefkelaffijbaaGreatDoorKfe
namespace Go.Proofs.YtaefkelaffijbaaGreatDoor
open Go.RowKit
set_option linter.unusedVariables false
set_option linter.unusedSimpArgs false
/-- The raw words are without flags. -/
theorem Inv.wrange {sum : List Int → Int} {at0 : Nat → Int} {n cnt N : Nat} {M : Nat → Prop} {σ : PwS} {xs : List Int} {L : Nat → Int} (h : Inv sum at0 n cnt M N σ xs L) {k : Nat} (hk : M k) : ∃ v, xs[k]? = some v ∧ 0 ≤ v ∧ v < 4611686018427387904 := by
 have hLk := h.hL k hk
 cases hc : σ.cur with
 | none => exact ⟨_, h.idle hc k hk, hLk⟩
 | some c =>
   obtain ⟨oc, g1, g2, g3, g4⟩ := h.run c hc
   have hok := h.ok c oc g1
   rcases g4 with ⟨_, _, _, hx⟩ | ⟨_, _, _, hx⟩ | ⟨_, hs, _, hx, hy⟩ | ⟨_, _, hx⟩
   · exact ⟨_, hx k hk, hLk⟩
   · exact ⟨_, hx k hk, hLk⟩
   · by_cases hq : ∃ q, q < oc.es.length ∧ wdE oc.es q = k
     · obtain ⟨q, hql, rfl⟩ := hq
       rcases hy q hql with h1 | h1
       · exact ⟨_, h1, hLk⟩
       · exact ⟨_, h1, Ent.after_range _ _ (hok.at_ hql).new⟩
     · exact ⟨_, hx k hk (fun q hql he => hq ⟨q, hql, he⟩), hLk⟩
   · exact ⟨_, hx k hk, hLk⟩
theorem reg30 {n P : Nat} (h : 264 + P ≤ 8 * n) : RegOk n 8 (Mq 256 P) (atW 0) := by
 refine ⟨fun k h => by unfold Mq at h; omega, fun k hk => ⟨8 * (0 + 4 * k), rfl, fun j hj => ⟨by omega, by unfold Mq; omega⟩⟩⟩
/-- A queue in memory, with its pool. -/
structure QuM (κ : Nat → Nat) (p d q n lines P : Nat) (t : Nat → Nat) (bs : Nat → Option Nat) (w : World) (σ : PwS) : Prop where
 pm : PMx (fun b => κ b ≠ 0) p d t 0 32 ((n : Int) * 64) w σ
 hq : CB w q 93 (qcells d p 2048 lines bs)
 kq : κ q = 2
 tab : Tab w
 k0 : κ 0 = 1
 hn : n < 1000
 hP : 8 * (lines - 1) = P ∧ 2 ≤ lines
 hn2 : 264 + P = 8 * n
section
variable {κ : Nat → Nat} {r p d q a g n P lines N T i : Nat} {t : Nat → Nat} {w w' : World} {σ : PwS} {m : QM} {bs : Nat → Option Nat} {q0 : List Int} {ms : List QM} {xs : List Int} {L : Nat → Int} {ord : List Nat}
theorem OcM.c10 (h : OcM κ r p q t w a m) : w.cell? ⟨a, 10, none⟩ = some (.bool m.ph.over) ∧ a < w.heap.size := by
 obtain ⟨h1, h2⟩ := h
 cases hp : m.ph with
 | start => rw [hp] at h2; exact ⟨h2.cell 10, h2.lt⟩
 | rd s f c rs => rw [hp] at h2; obtain ⟨g, v, f', c', g1, _⟩ := h2; exact ⟨g1.cell 10, g1.lt⟩
 | chg f c v x => rw [hp] at h2; obtain ⟨s, rd, g1⟩ := h2; exact ⟨g1.cell 10, g1.lt⟩
 | fin v e => rw [hp] at h2; obtain ⟨v', s, f', c', g1, _⟩ := h2; exact ⟨g1.cell 10, g1.lt⟩
/-- What a step of a call leaves. -/
def QoStp (κ : Nat → Nat) (r p d q a n P lines : Nat) (t : Nat → Nat) (w : World) (bs : Nat → Option Nat) (σ : PwS) (m : QM) (e : Ending) (w' : World) : Prop :=
 ∃ bl : Nat × List Nat, σ.ops bl.1 = none ∧ bl.2.Perm (List.range 3) ∧ QoPost κ r p d q a n lines t w bs (.bool (qStep sumI (atW 0) 256 P σ m bl).2.over) (qStep sumI (atW 0) 256 P σ m bl).1 { m with ph := (qStep sumI (atW 0) 256 P σ m bl).2 } e w'
/-- Behind an instruction of a read. -/
def RdS1 (κ : Nat → Nat) (r p d q a n P lines : Nat) (t : Nat → Nat) (w : World) (bs : Nat → Option Nat) (σ : PwS) (m : QM) (w1 : World) (ed : Bool) : Prop :=
 w1.cell? ⟨a, 10, none⟩ = some (.bool false) ∧ a < w1.heap.size ∧ (ed = false → QoStp κ r p d q a n P lines t w bs σ m (.returned (.bool false)) w1) ∧
 (ed = true → Calls Tryz.prog 68 #[.pointer (some ⟨a, 0, none⟩)] w1 fun e w2 => e = .returned (.tuple #[]) ∧ ∃ b, w2.cell? ⟨a, 10, none⟩ = some (.bool b) ∧ a < w2.heap.size ∧ QoStp κ r p d q a n P lines t w bs σ m (.returned (.bool b)) w2)
/-- An instruction of a read. -/
theorem qoRdK {s f c : Nat} {rs : RdS} (h : QuM κ p d q n lines P t bs w σ) (W : QW sumI (atW 0) n 256 P q0 σ ms N T xs L ord) (hN : N < 1000000) (hi : ms[i]? = some m) (hO : OcM κ r p q t w a m) (hbs : bs m.th = some a) (hr : 3 ≤ r) (hp : m.ph = .rd s f c rs) :
 ∃ g v f' c' ed, CB w a 106 (qocells q m.th m.ins v s (some g) none f' c' 0 false) ∧ Calls Tryz.prog 67 #[.pointer (some ⟨g, 0, none⟩)] w fun e w1 => e = .returned (.bool ed) ∧ RdS1 κ r p d q a n P lines t w bs σ m w1 ed := by
 obtain ⟨hka, hO2⟩ := hO
 rw [hp] at hO2
 obtain ⟨g, v, f', c', hc, hf, hcc, hv, hg, hkg, hga⟩ := hO2
 have hov : m.ph.over = false := by rw [hp]; rfl
 have hth := W.sb.th.lt hi hov
 obtain ⟨hre, hrt⟩ := W.sb.rd i m s f c rs hi hp
 have hok := W.ls.ok i m hi
 have hfc := hok.ph
 rw [hp] at hfc
 obtain ⟨f1, f2, f3, f4, f5, f6, f7, f8⟩ := hfc
 have hP0 : 0 < P := by have := h.hP; omega
 have hn2 := h.hn2
 have hn := h.hn
 have hMq := qWd_Mq (W := 256) (P := P) hP0 s f
 have hk8 : qWd 256 P s f < 8 * n := by unfold Mq at hMq; omega
 have hR := W.inv.rstep hN hMq hk8 f3 f4 hre f5 (f6 hre)
 obtain ⟨ord', hI1, _, _, b1, b2, b3, _, hL1⟩ := W.ls.read W.inv hN (by omega) hi hp hre
 have hf1 := (hL1.ok i _ (List.getElem?_set_self (List.getElem?_eq_some_iff.1 hi).1)).ph
 obtain ⟨_, _, _, _, _, _, _, g8⟩ := hf1
 have hplace : (σ.rstep rs).2.place ≠ 0 := by rw [b2]; omega
 obtain ⟨hr0, hr1, hr2, hr3⟩ := g8 hplace
 have hKg : κ g ≠ 0 := by omega
 have hKa : κ a ≠ 0 := by omega
 have hRS := rdStep (rb := g) h.pm hKg (by rw [hrt]; exact hg) (fun c hc => by
  obtain ⟨oc, g1, _⟩ := W.inv.run c hc
  have hok := W.inv.ok c oc g1
  have := hok.l6
  exact ⟨oc, g1, hok.sl, by omega⟩) f4 (by rw [f3]; omega) W.inv.on.good hN (f6 hre) (fun _ => by
  obtain ⟨v, hv, hv2⟩ := W.inv.wrange hMq
  rw [f3, (W.inv.on.load_at hk8 hv 0).2]
  exact hv2)
 rw [hrt] at hRS
 have hQE : ∀ bl, qStep sumI (atW 0) 256 P σ m bl = qRd 256 P σ m s f c rs bl := fun bl => by unfold qStep; rw [hp]
 have hkeep : ∀ w1, RdAt (fun b => κ b ≠ 0) p d t 0 32 ((n : Int) * 64) g (.pointer (some ⟨p, 0, none⟩)) (.pointer (some ⟨t m.th, 0, none⟩)) w w1 (σ.rstep rs).1 (σ.rstep rs).2 →
  CB w1 a 106 (qocells q m.th m.ins v s (some g) none f' c' 0 false) ∧ CB w1 q 93 (qcells d p 2048 lines bs) ∧ Ch (fun b => κ b = 0 ∨ κ b = r ∨ κ b = 2) w w1 := fun w1 hw1 => by
  obtain ⟨_, _, hC⟩ := hw1
  refine ⟨hc.keep (hC.block a hc.lt (fun hh => hh.elim (fun hx => hx hKa) (fun hx => hga hx.symm))), h.hq.keep (hC.block q h.hq.lt (fun hh => hh.elim (fun hx => hx (by have := h.kq; omega)) (fun hx => by have := h.kq; rw [hx] at this; omega))), hC.mono (fun b hb _ => ?_)⟩
  rcases hb with hb | hb
  · exact .inl (by omega)
  · exact .inr (.inl (by rw [hb]; exact hkg))
 have HEND : (σ.rstep rs).2.ended = true → ∀ w1, RdAt (fun b => κ b ≠ 0) p d t 0 32 ((n : Int) * 64) g (.pointer (some ⟨p, 0, none⟩)) (.pointer (some ⟨t m.th, 0, none⟩)) w w1 (σ.rstep rs).1 (σ.rstep rs).2 →
  Calls Tryz.prog 68 #[.pointer (some ⟨a, 0, none⟩)] w1 (QoPostB κ r p d q a n lines t w1 bs (.tuple #[]) (σ.rstep rs).1 (qLoad 256 P (σ.rstep rs).1 m.th m.ins m.val s f c (σ.rstep rs).2.raw) m) := fun hend w1 hw1 => by
  obtain ⟨x, hx⟩ : ∃ x : Nat, (σ.rstep rs).2.raw % 1099511627776 = (x : Int) := ⟨((σ.rstep rs).2.raw % 1099511627776).toNat, by omega⟩
  obtain ⟨k1, k2, k3⟩ := hkeep w1 hw1
  obtain ⟨u1, u2, u3⟩ := hw1
  have hvl : Calls Tryz.prog 96 #[.pointer (some ⟨g, 0, none⟩)] w1 fun e w' => e = .returned (.tuple #[.int .u64 (x : Int), .int .i64 0]) ∧ Below w1.heap.size w1 w' := by
   have := rdValue w1 u2 ⟨hr0, by omega⟩
   unfold RdS.val at this
   rw [hend, hR.th.2.2, hx] at this
   simpa using this
  have hLd : LdIn κ r p d q a g n P lines t w1 (σ.rstep rs).1 m bs s v f' c' x := ⟨u1, hn, by omega, h.hP, k2, h.kq, hka, hr, hth, hbs, k1, hvl, by omega, hI1.on.err, ⟨by rw [b1]; exact W.sb.len, by rw [b1]; exact W.sb.free.1⟩⟩
  exact qoLoaded hLd hx f1 (fun hs => ⟨f2 hs, hf hs⟩) hcc hv hok.vl (fun hs => by have := hr2 hs; omega) (fun hs => by have := hr3 hs; omega)
 refine ⟨g, v, f', c', (σ.rstep rs).2.ended, hc, hRS.mono ?_⟩
 rintro e w1 ⟨rfl, hw1⟩
 obtain ⟨k1, k2, k3⟩ := hkeep w1 hw1
 refine ⟨rfl, k1.oc.c10, k1.lt, fun hed => ?_, fun hed => (HEND hed w1 hw1).mono ?_⟩
 · refine ⟨(w.heap.size, List.range 3), h.pm.opNo (Nat.le_refl _), List.Perm.refl _, ?_⟩
   rw [hQE]
   unfold qRd
   rw [hed]
   exact ⟨rfl, κ, fun _ _ => rfl, hw1.1, ⟨hka, g, v, f', c', k1, hf, hcc, hv, hw1.2.1, hkg, hga⟩, k2, k3⟩
 · rintro e w2 ⟨bl, hb1, hb2, rfl, hq2⟩
   have hq3 := hq2
   obtain ⟨_, _, _, ho2, _⟩ := hq3
   refine ⟨rfl, _, ho2.c10.1, ho2.c10.2, bl, by rw [← hR.ops.1]; exact hb1, hb2, ?_⟩
   rw [hQE]
   unfold qRd
   rw [hed]
   simp only [if_true]
   exact QoPost.trans (w1 := w1) (κ1 := κ) ⟨rfl, hq2⟩ (fun _ _ => rfl) k3
end
section
variable {κ : Nat → Nat} {r p d q a g n P lines N T i : Nat} {t : Nat → Nat} {w w' : World} {σ : PwS} {m : QM} {bs : Nat → Option Nat} {q0 : List Int} {ms : List QM} {xs : List Int} {L : Nat → Int} {ord : List Nat}
set_option maxRecDepth 100000 in
set_option maxHeartbeats 4000000 in
theorem qoStepC {f c x : Nat} {v : Int} (h : QuM κ p d q n lines P t bs w σ) (W : QW sumI (atW 0) n 256 P q0 σ ms N T xs L ord) (hN : N < 1000000) (hi : ms[i]? = some m) (hO : OcM κ r p q t w a m) (hbs : bs m.th = some a) (hr : 3 ≤ r) (hp : m.ph = .chg f c v x) :
 Calls Tryz.prog 47 #[.pointer (some ⟨a, 0, none⟩)] w (QoStp κ r p d q a n P lines t w bs σ m) := by
 obtain ⟨hka, hO2⟩ := hO
 rw [hp] at hO2
 obtain ⟨s, rd, hc⟩ := hO2
 have hov : m.ph.over = false := by rw [hp]; rfl
 have hth := W.sb.th.lt hi hov
 have hok := W.ls.ok i m hi
 have hfc := hok.ph
 rw [hp] at hfc
 obtain ⟨f1, f2, f3, f4, f5, o, f6, f7⟩ := hfc
 obtain ⟨o0, g1, g2, g3, g4⟩ := W.sb.ch i m f c v x hi hp
 rw [f6] at g1
 injection g1 with g1
 subst g1
 have hn := h.hn
 have hn2 := h.hn2
 obtain ⟨σ', b, xs', L', S⟩ := W.inv.step (reg30 (n := n) (P := P) (by omega)) hN f6
 have hst := opStep h.pm (show κ 0 ≠ 0 by have := h.k0; omega) h.tab W.inv (reg30 (n := n) (P := P) (by omega)) hN ⟨by omega, by omega, W.sb.len⟩ f6
 rw [S.eq] at hst
 obtain ⟨o', t1, t2, t3, t4, t5, t6, t7, t8⟩ := S.self
 have hQE : ∀ bl, qStep sumI (atW 0) 256 P σ m bl = if b then (σ', if o'.changed then .fin v 0 else .rd 1 0 0 (rd0 m.th (qfW 256))) else (σ', m.ph) := fun bl => by
  have : chgd σ' x = o'.changed := by unfold chgd; rw [t1]
  unfold qStep
  rw [hp]
  simp only [S.eq, this]
 have hKa : κ a ≠ 0 := by omega
 obtain ⟨c0, c1, c2, c3, c4, c5, c6, c7, c8, c9, c10, hl, hff⟩ := hc.oc
 rw [optP_some] at c6
 have hkeep : ∀ w1, Ch (fun b => ¬ κ b ≠ 0) w w1 → CB w1 a 106 (qocells q m.th m.ins v s rd (some x) f c 0 false) ∧ CB w1 q 93 (qcells d p 2048 lines bs) ∧ Ch (fun b => κ b = 0 ∨ κ b = r ∨ κ b = 2) w w1 := fun w1 hC =>
  ⟨hc.keep (hC.block a hc.lt (fun hh => hh hKa)), h.hq.keep (hC.block q h.hq.lt (fun hh => hh (by have := h.kq; omega))), hC.mono (fun b hb _ => .inl (by omega))⟩
 have HST := Lib.hid hst
 have HKEEP := Lib.hid hkeep
 have HQE := Lib.hid hQE
 have HEND : Hid (b = true → ∀ w1, PMx (fun b => κ b ≠ 0) p d t 0 32 ((n : Int) * 64) w1 σ' → Ch (fun b => ¬ κ b ≠ 0) w w1 → Calls Tryz.prog 65 #[.pointer (some ⟨a, 0, none⟩)] w1 (QoPost κ r p d q a n lines t w1 bs (.tuple #[]) σ' { m with ph := if o'.changed then .fin v 0 else .rd 1 0 0 (rd0 m.th (qfW 256)) })) := fun hb w1 hP hC => by
  obtain ⟨k1, k2, k3⟩ := hkeep w1 hC
  exact qoChanged ⟨hP, hn, by omega, k2, h.kq, hka, hr, hth, hbs, k1, t1, by rw [t2, hb], t6 hb g2⟩ (fun hx => (f3 hx).2)
 have HOV : Hid (m.ph = .chg f c v x) := hp
 have HPM := Lib.hid h.pm
 have HKA := Lib.hid hka
 obtain ⟨ph1, hph1⟩ : ∃ ph1 : QPh, (if o'.changed then QPh.fin v 0 else .rd 1 0 0 (rd0 m.th (qfW 256))) = ph1 := ⟨_, rfl⟩
 rw [hph1] at HEND HQE
 clear hff hc hov hth hok f1 f2 f3 f4 f5 f6 f7 g2 g3 g4 hn hn2 S t1 t2 t3 t4 t5 t6 t7 t8 hQE hKa hkeep hst hph1 h hp hka
 cases b with
 | false =>
   go_enter Tryz.func47, Tryz.ntmps47
   go_upto_region 6 with (go_at_call 64; (with_reducible refine HST.out.mono ?_); rintro e w1 ⟨rfl, hP1, hC1⟩; have HP1 := Lib.hid hP1; have HC1 := Lib.hid hC1; have hk10 := (HKEEP.out w1 hC1).1.oc.c10; have hl1 := (HKEEP.out w1 hC1).1.lt; clear hP1 hC1)
   go_wp2
   refine bodyPost_ret (v := .bool false) (by simp [results, Tryz.results47, go_sem]) rfl ?_
   obtain ⟨k1, k2, k3⟩ := HKEEP.out w1 HC1.out
   refine ⟨(w.heap.size, List.range 3), HPM.out.opNo (Nat.le_refl _), List.Perm.refl _, ?_⟩
   rw [HQE.out]
   simp only [Bool.false_eq_true, if_false]
   rw [HOV.out]
   exact ⟨rfl, κ, fun _ _ => rfl, HP1.out, ⟨HKA.out, s, rd, k1⟩, k2, k3⟩
 | true =>
   have HEND2 := Lib.hid (HEND.out rfl)
   clear HEND
   go_enter Tryz.func47, Tryz.ntmps47
   go_upto_region 6 with (first
    | (go_at_call 64; (with_reducible refine HST.out.mono ?_); rintro e w1 ⟨rfl, hP1, hC1⟩; have HP1 := Lib.hid hP1; have HC1 := Lib.hid hC1; have hk10 := (HKEEP.out w1 hC1).1.oc.c10; have hk0 := (HKEEP.out w1 hC1).1.oc.c0; have hl1 := (HKEEP.out w1 hC1).1.lt; clear hP1 hC1)
    | (go_at_call 65; (with_reducible refine (HEND2.out w1 HP1.out HC1.out).mono ?_); rintro e w2 hw2; obtain ⟨rfl, hq2⟩ := hw2; have HQ2 := Lib.hid hq2; obtain ⟨_, _, _, ho2, _⟩ := hq2; have hk := ho2.c10; have hk10' := hk.1; have hl2 := hk.2; clear ho2 hk hk10 hk0 hl1))
   go_wp2
   refine bodyPost_ret (v := .bool ph1.over) (by simp [results, Tryz.results47, go_sem]) rfl ?_
   obtain ⟨k1, k2, k3⟩ := HKEEP.out w1 HC1.out
   refine ⟨(w.heap.size, List.range 3), HPM.out.opNo (Nat.le_refl _), List.Perm.refl _, ?_⟩
   rw [HQE.out]
   simp only [if_true]
   exact QoPost.trans (w1 := w1) (κ1 := κ) ⟨rfl, HQ2.out⟩ (fun _ _ => rfl) k3
set_option maxRecDepth 100000 in
set_option maxHeartbeats 4000000 in
theorem qoStepR {s f c : Nat} {rs : RdS} (h : QuM κ p d q n lines P t bs w σ) (W : QW sumI (atW 0) n 256 P q0 σ ms N T xs L ord) (hN : N < 1000000) (hi : ms[i]? = some m) (hO : OcM κ r p q t w a m) (hbs : bs m.th = some a) (hr : 3 ≤ r) (hp : m.ph = .rd s f c rs) :
 Calls Tryz.prog 47 #[.pointer (some ⟨a, 0, none⟩)] w (QoStp κ r p d q a n P lines t w bs σ m) := by
 obtain ⟨g, v, f', c', ed, hc, hRS⟩ := qoRdK h W hN hi hO hbs hr hp
 obtain ⟨c0, c1, c2, c3, c4, c5, c6, c7, c8, c9, c10, hl, hff⟩ := hc.oc
 rw [optP_some] at c5
 rw [optP_none] at c6
 have HRS := Lib.hid hRS
 clear hRS h W hN hi hO hbs hr hp hc hff
 cases ed with
 | false =>
   go_enter Tryz.func47, Tryz.ntmps47
   go_upto_region 11 with (go_at_call 67; (with_reducible refine HRS.out.mono ?_); rintro e w1 ⟨rfl, k10, k11, k12, _⟩; have HX := Lib.hid (k12 rfl); clear k12)
   go_wp2
   exact bodyPost_ret (v := .bool false) (by simp [results, Tryz.results47, go_sem]) rfl HX.out
 | true =>
   go_enter Tryz.func47, Tryz.ntmps47
   go_upto_region 11 with (first
    | (go_at_call 67; (with_reducible refine HRS.out.mono ?_); rintro e w1 ⟨rfl, k10, k11, _, k12⟩; have HX := Lib.hid (k12 rfl); clear k12)
    | (go_at_call 68; (with_reducible refine HX.out.mono ?_); rintro e w2 ⟨rfl, b, k10', k11', hq⟩; have HQ := Lib.hid hq; clear hq k10 k11))
   go_wp2
   exact bodyPost_ret (v := .bool b) (by simp [results, Tryz.results47, go_sem]) rfl HQ.out
/-- A call has begun. -/
theorem QW.begins {sum : List Int → Int} {at0 : Nat → Int} {W P : Nat} (h : QW sum at0 n W P q0 σ ms N T xs L ord) (hi : ms[i]? = some m) (hp : m.ph = .start) : QW sum at0 n W P q0 σ (ms.set i { m with ph := .rd 1 0 0 (rd0 m.th (qfW W)), bg := T }) N (T + 1) xs L ord := by
 have hov : m.ph.over = false := by rw [hp]; rfl
 have hth := h.sb.th.lt hi hov
 have h1 := h.ls.later (Nat.le_succ T)
 have hc : isChg m = none := by unfold isChg; rw [hp]
 refine ⟨h.inv, ?_, h.sb.keep hi rfl hov hc rfl (fun s2 f2 c2 r2 hx => by injection hx with _ _ _ hx; rw [← hx]; exact ⟨rfl, rfl⟩) rfl rfl⟩
 refine h1.move (σ' := σ) (m' := { m with ph := .rd 1 0 0 (rd0 m.th (qfW W)), bg := T }) hi rfl rfl ?_ ?_ (fun _ _ hx => hx) rfl (fun f k v a hx => by rw [hp] at hx; cases hx) (fun f k v a hx => (by cases hx)) ⟨fun _ => Nat.lt_succ_self T, fun hx => (by cases hx)⟩ (fun hx => by rw [hp] at hx; cases hx) hov (fun hx => (by cases hx))
 · unfold QM.out; rw [hp]; rfl
 · have e : qfW W = qWd W P 1 0 := by unfold qWd; rw [if_pos rfl]
   rw [e]
   exact rd0_facts hth (.inl rfl) (fun hx => absurd rfl hx)
theorem QoStp.start {κ1 : Nat → Nat} {w1 : World} {m1 : QM} {v : Value} {e : Ending} (h : QoStp κ1 r p d q a n P lines t w1 bs σ m1 e w') (hm1 : m1 = { m with ph := .rd 1 0 0 (rd0 m.th (qfW 256)), bg := T }) (hp : m.ph = .start) (hk : ∀ b, b < w.heap.size → κ1 b = κ b) (hC : Ch (fun b => κ b = 0 ∨ κ b = r ∨ κ b = 2) w w1) : QoStp κ r p d q a n P lines t w bs σ m e w' := by
 subst hm1
 obtain ⟨bl, h1, h2, h3⟩ := h
 refine ⟨bl, h1, h2, ?_⟩
 have e1 : qStep sumI (atW 0) 256 P σ m bl = qStep sumI (atW 0) 256 P σ { m with ph := .rd 1 0 0 (rd0 m.th (qfW 256)), bg := T } bl := by
  unfold qStep
  rw [hp]
  rfl
 rw [e1]
 obtain ⟨g1, κ', g2, g3, g4, g5, g6⟩ := h3
 exact QoPost.trans (κ1 := κ1) (w1 := w1) ⟨g1, κ', g2, g3, g4.same rfl rfl rfl rfl, g5, g6⟩ hk hC
set_option maxRecDepth 100000 in
set_option maxHeartbeats 4000000 in
theorem qoStepS (h : QuM κ p d q n lines P t bs w σ) (W : QW sumI (atW 0) n 256 P q0 σ ms N T xs L ord) (hN : N < 1000000) (hi : ms[i]? = some m) (hO : OcM κ r p q t w a m) (hbs : bs m.th = some a) (hr : 3 ≤ r) (hp : m.ph = .start) :
 Calls Tryz.prog 47 #[.pointer (some ⟨a, 0, none⟩)] w (QoStp κ r p d q a n P lines t w bs σ m) := by
 obtain ⟨hka, hc⟩ := hO
 rw [hp] at hc
 have hc : CB w a 106 (qocells q m.th m.ins (if m.ins then m.val else 0) 0 none none 0 0 0 false) := hc
 have hov : m.ph.over = false := by rw [hp]; rfl
 have hth := W.sb.th.lt hi hov
 have hn := h.hn
 have hn2 := h.hn2
 have hqa : q ≠ a := fun he => by have h1 := h.kq; rw [he] at h1; omega
 have hKa : κ a ≠ 0 := by omega
 have hld := qoLoad (rd0' := none) h.pm hn hKa h.hq hc hth 1 258 ⟨by omega, by omega⟩
 rw [show (8 * ((258 : Nat) : Int)) = 2064 from rfl, show ((1 : Nat) : Int) = 1 from rfl] at hld
 have HW : Hid (Calls Tryz.prog 60 #[.pointer (some ⟨q, 0, none⟩), .int .i64 2] w fun e w' => e = .returned (.int .u64 2064) ∧ w = w') := by
  have := quWord h.hq.qc 2 (by omega) (by omega); show Calls _ _ _ _ _; simpa using this
 obtain ⟨m1, hm1⟩ : ∃ m1 : QM, m1 = { m with ph := .rd 1 0 0 (rd0 m.th (qfW 256)), bg := T } := ⟨_, rfl⟩
 have hW1 : QW sumI (atW 0) n 256 P q0 σ (ms.set i m1) N (T + 1) xs L ord := by rw [hm1]; exact W.begins hi hp
 have HNX : Hid (∀ w1 g3, w.heap.size ≤ g3 → CB w1 a 106 (qocells q m.th m.ins (if m.ins then m.val else 0) 1 (some g3) none 0 0 0 false) → CB w1 g3 168 (rdcells (.pointer (some ⟨p, 0, none⟩)) (.pointer (some ⟨t m.th, 0, none⟩)) ⟨m.th, 2064, 0, 0, false, 0⟩) → PMx (fun b => κ b ≠ 0 ∨ (w.heap.size ≤ b ∧ b < w1.heap.size)) p d t 0 32 ((n : Int) * 64) w1 σ → Ch (At a) w w1 →
  ∃ ed, Calls Tryz.prog 67 #[.pointer (some ⟨g3, 0, none⟩)] w1 fun e w2 => e = .returned (.bool ed) ∧ w2.cell? ⟨a, 10, none⟩ = some (.bool false) ∧ a < w2.heap.size ∧ (ed = false → QoStp κ r p d q a n P lines t w bs σ m (.returned (.bool false)) w2) ∧
   (ed = true → Calls Tryz.prog 68 #[.pointer (some ⟨a, 0, none⟩)] w2 fun e w3 => e = .returned (.tuple #[]) ∧ ∃ b, w3.cell? ⟨a, 10, none⟩ = some (.bool b) ∧ a < w3.heap.size ∧ QoStp κ r p d q a n P lines t w bs σ m (.returned (.bool b)) w3)) := fun w1 g3 h1 h2 h3 h4 h5 => by
  have hC : Ch (fun b => κ b = 0 ∨ κ b = r ∨ κ b = 2) w w1 := h5.mono (fun b hb _ => .inr (.inl (by rw [show b = a from hb]; exact hka)))
  have hga : a < w.heap.size := hc.lt
  have hkk : ∀ b, b < w.heap.size → rolN κ w w1 r b = κ b := fun b hb => rolN_old hb
  have hk0 : (0 : Nat) < w.heap.size := h.tab.1
  have hQ : QuM (rolN κ w w1 r) p d q n lines P t bs w1 σ := ⟨h4.rolN, h.hq.keep (h5.block q h.hq.lt hqa), by rw [hkk q h.hq.lt]; exact h.kq, h.tab.ch h5 (fun hx => by have := h.k0; rw [show (0 : Nat) = a from hx] at this; omega), by rw [hkk 0 hk0]; exact h.k0, h.hn, h.hP, h.hn2⟩
  have hO : OcM (rolN κ w w1 r) r p q t w1 a m1 := by
   subst hm1
   exact ⟨by rw [hkk a hga]; exact hka, g3, _, 0, 0, h2, fun hx => absurd rfl hx, fun hx => (by omega), fun hx => if_pos hx, h3, rolN_new h1 h3.lt, by omega⟩
  have hil := (List.getElem?_eq_some_iff.1 hi).1
  obtain ⟨g, v, f', c', ed, hcc, hRS⟩ := qoRdK hQ hW1 hN (List.getElem?_set_self hil) hO (by rw [hm1]; exact hbs) hr (by rw [hm1])
  have hgg : g = g3 := by
   have e1 := hcc.oc.c5
   rw [h2.oc.c5] at e1
   simpa [optP] using e1.symm
  subst hgg
  refine ⟨ed, hRS.mono ?_⟩
  rintro e w2 ⟨rfl, k1, k2, k3, k4⟩
  refine ⟨rfl, k1, k2, fun he => (k3 he).start (v := .bool false) hm1 hp hkk hC, fun he => (k4 he).mono ?_⟩
  rintro e w3 ⟨rfl, b, u1, u2, u3⟩
  exact ⟨rfl, b, u1, u2, u3.start (v := .bool b) hm1 hp hkk hC⟩
 obtain ⟨c0, c1, c2, c3, c4, c5, c6, c7, c8, c9, c10, hl, hff⟩ := hc.oc
 rw [optP_none] at c5 c6
 have HLD := Lib.hid hld
 clear h W hN hi hbs hr hp hc hff hov hth hn hn2 hqa hKa hld hm1 hW1 hka
 go_enter Tryz.func47, Tryz.ntmps47
 go_upto_region 9 with (first
  | (go_at_call 60; (with_reducible refine HW.out.mono ?_); rintro e w3 ⟨rfl, rfl⟩)
  | (go_at_call 66; (with_reducible refine HLD.out.mono ?_); rintro e w1 ⟨g3, rfl, t1, t2, t3, t4, t5⟩; obtain ⟨ed, hed⟩ := HNX.out w1 g3 t1 t2 t3 t4 t5; have HRS := Lib.hid hed; have k0 := t2.oc.c5; have hl1 := t2.lt; clear t1 t2 t3 t4 t5 hed))
 rw [optP_some] at k0
 clear c0 c1 c2 c3 c4 c5 c6 c7 c8 c9 c10 HNX HLD HW
 cases ed with
 | false =>
   go_upto_region 11 with (go_at_call 67; (with_reducible refine HRS.out.mono ?_); rintro e w1 ⟨rfl, k10, k11, k12, _⟩; have HX := Lib.hid (k12 rfl); clear k12)
   go_wp2
   exact bodyPost_ret (v := .bool false) (by simp [results, Tryz.results47, go_sem]) rfl HX.out
 | true =>
   go_upto_region 11 with (first
    | (go_at_call 67; (with_reducible refine HRS.out.mono ?_); rintro e w1 ⟨rfl, k10, k11, _, k12⟩; have HX := Lib.hid (k12 rfl); clear k12)
    | (go_at_call 68; (with_reducible refine HX.out.mono ?_); rintro e w2 ⟨rfl, b, k10', k11', hq⟩; have HQ := Lib.hid hq; clear hq k10 k11))
   go_wp2
   exact bodyPost_ret (v := .bool b) (by simp [results, Tryz.results47, go_sem]) rfl HQ.out
/-- A step of a call that is not over. -/
theorem qoStep (h : QuM κ p d q n lines P t bs w σ) (W : QW sumI (atW 0) n 256 P q0 σ ms N T xs L ord) (hN : N < 1000000) (hi : ms[i]? = some m) (hO : OcM κ r p q t w a m) (hbs : bs m.th = some a) (hr : 3 ≤ r) (hov : m.ph.over = false) :
 Calls Tryz.prog 47 #[.pointer (some ⟨a, 0, none⟩)] w (QoStp κ r p d q a n P lines t w bs σ m) := by
 cases hp : m.ph with
 | start => exact qoStepS h W hN hi hO hbs hr hp
 | rd s f c rs => exact qoStepR h W hN hi hO hbs hr hp
 | chg f c v x => exact qoStepC h W hN hi hO hbs hr hp
 | fin v e => rw [hp] at hov; cases hov
end
def QPh.got : QPh → Int
 | .fin v _ => v
 | _ => 0
def QPh.er : QPh → Int
 | .fin _ e => e
 | _ => 0
/-- The cells of a machine. -/
def mqc (m : QM) (a : Nat) : Array Value :=
 #[.pointer (some ⟨a, 0, none⟩), .bool m.ins, .int .u64 m.val, .int .i64 m.bg, .int .i64 m.en, .bool m.ph.over, .int .u64 m.ph.got, .int .i64 m.ph.er, .bool (!m.ph.fresh), .bool m.ph.over]
theorem qStep_ph {sum : List Int → Int} {at0 : Nat → Int} {W P : Nat} {σ : PwS} {m : QM} {bl : Nat × List Nat} (hov : m.ph.over = false) : (qStep sum at0 W P σ m bl).2.fresh = false ∧ ∀ v e, (qStep sum at0 W P σ m bl).2 = .fin v e → e = 0 ∨ e = 4 ∨ e = 5 := by
 have hL : ∀ (τ : PwS) (s f c : Nat) (raw : Int), (qLoad W P τ m.th m.ins m.val s f c raw bl).2.fresh = false ∧ ∀ v e, (qLoad W P τ m.th m.ins m.val s f c raw bl).2 = .fin v e → e = 0 ∨ e = 4 ∨ e = 5 := fun τ s f c raw => by
  unfold qLoad qBeg
  split
  · exact ⟨rfl, fun v e h => by cases h⟩
  · split
    · split
      · split
        · exact ⟨rfl, fun v e h => by injection h with _ h; exact .inr (.inl h.symm)⟩
        · exact ⟨rfl, fun v e h => by cases h⟩
      · split
        · exact ⟨rfl, fun v e h => by injection h with _ h; exact .inr (.inr h.symm)⟩
        · exact ⟨rfl, fun v e h => by cases h⟩
    · exact ⟨rfl, fun v e h => by cases h⟩
 have hR : ∀ (s f c : Nat) (rs : RdS), (qRd W P σ m s f c rs bl).2.fresh = false ∧ ∀ v e, (qRd W P σ m s f c rs bl).2 = .fin v e → e = 0 ∨ e = 4 ∨ e = 5 := fun s f c rs => by
  unfold qRd
  split
  · exact hL _ _ _ _ _
  · exact ⟨rfl, fun v e h => by cases h⟩
 cases hp : m.ph with
 | start => unfold qStep; rw [hp]; exact hR _ _ _ _
 | rd s f c rs => unfold qStep; rw [hp]; exact hR _ _ _ _
 | chg f c v a =>
   unfold qStep
   rw [hp]
   dsimp only
   split
   · split
     · exact ⟨rfl, fun v e h => by injection h with _ h; exact .inl h.symm⟩
     · exact ⟨rfl, fun v e h => by cases h⟩
   · exact ⟨rfl, fun v e h => by cases h⟩
 | fin v e => rw [hp] at hov; cases hov
section
variable {κ κ' : Nat → Nat} {r p d q a gm g n P lines N T i : Nat} {t : Nat → Nat} {w w' : World} {σ σ' : PwS} {m m' : QM} {bs : Nat → Option Nat} {q0 : List Int} {ms : List QM} {xs : List Int} {L : Nat → Int} {ord : List Nat}
/-- Machine i: its record, its call. -/
structure MqM (κ : Nat → Nat) (i p q : Nat) (t : Nat → Nat) (w : World) (gm a : Nat) (m : QM) : Prop where
 kg : κ gm = 2 * i + 5
 cb : CB w gm 39 (mqc m a)
 oc : OcM κ (2 * i + 4) p q t w a m
theorem MqM.ch {S : Nat → Prop} (h : MqM κ i p q t w gm a m) (hC : Ch S w w') (hS : ∀ b, b < w.heap.size → S b → κ b ≠ 2 * i + 4 ∧ κ b ≠ 2 * i + 5) (hk : ∀ b, b < w.heap.size → κ' b = κ b) : MqM κ' i p q t w' gm a m :=
 ⟨by rw [hk gm h.cb.lt]; exact h.kg, h.cb.keep (hC.block gm h.cb.lt (fun hs => (hS gm h.cb.lt hs).2 h.kg)), h.oc.ch hC (fun b hb hs => (hS b hb hs).1) hk⟩
def VlP (v e : Int) (w : World) (x : Ending) (w' : World) : Prop := x = .returned (.tuple #[.int .u64 v, .int .i64 e]) ∧ ∃ n, w' = w.drewN n
set_option maxRecDepth 100000 in
theorem qoValue {v e : Int} (h : OcM κ r p q t w a m) (hp : m.ph = .fin v e) :
 Calls Tryz.prog 22 #[.pointer (some ⟨a, 0, none⟩)] w (VlP v e w) := by
 obtain ⟨hka, h2⟩ := h
 rw [hp] at h2
 obtain ⟨v', s, f', c', hc, h0, h1⟩ := h2
 obtain ⟨c0, c1, c2, c3, c4, c5, c6, c7, c8, c9, c10, hl, hff⟩ := hc.oc
 by_cases he : e = 0
 · subst he
   obtain rfl := h0 rfl
   clear hff hc h0 h1
   go_enter Tryz.func22, Tryz.ntmps22
   go_wp2
   exact bodyPost_ret (v := .tuple #[.int .u64 v', .int .i64 0]) (by simp [results, Tryz.results22, go_sem]) rfl ⟨rfl, 0, rfl⟩
 · obtain rfl := h1 he
   clear hff hc h0 h1
   go_enter Tryz.func22, Tryz.ntmps22
   go_upto_region 6 with (fail)
   go_quiet (fail)
   go_wp2
   exact bodyPost_ret (v := .tuple #[.int .u64 0, .int .i64 e]) (by simp [results, Tryz.results22, go_sem]) rfl ⟨rfl, _, rfl⟩
/-- What a step of machine i leaves. -/
def MqStp (κ : Nat → Nat) (i p d q gm a n P lines : Nat) (t : Nat → Nat) (w : World) (bs : Nat → Option Nat) (σ : PwS) (m : QM) (T : Nat) (e : Ending) (w' : World) : Prop :=
 ∃ bl : Nat × List Nat, σ.ops bl.1 = none ∧ bl.2.Perm (List.range 3) ∧ e = .returned (.tuple #[]) ∧ ∃ κ' : Nat → Nat, (∀ b, b < w.heap.size → κ' b = κ b) ∧ PMx (fun b => κ' b ≠ 0) p d t 0 32 ((n : Int) * 64) w' (qStep sumI (atW 0) 256 P σ m bl).1 ∧
  MqM κ' i p q t w' gm a (m.next T (qStep sumI (atW 0) 256 P σ m bl).2) ∧ CB w' q 93 (qcells d p 2048 lines (bsA (m.next T (qStep sumI (atW 0) 256 P σ m bl).2) bs)) ∧ Ch (fun b => κ b = 0 ∨ κ b = 2 * i + 4 ∨ κ b = 2 * i + 5 ∨ κ b = 2) w w'
end
section
variable {κ κ' : Nat → Nat} {r p d q a gm g n P lines N T i : Nat} {t : Nat → Nat} {w w' : World} {σ σ' : PwS} {m m' : QM} {bs : Nat → Option Nat} {q0 : List Int} {ms : List QM} {xs : List Int} {L : Nat → Int} {ord : List Nat}
/-- A machine's cells once it has begun. -/
def mqn (m : QM) (a T : Nat) : Array Value :=
 #[.pointer (some ⟨a, 0, none⟩), .bool m.ins, .int .u64 m.val, .int .i64 ((if m.ph.fresh then T else m.bg : Nat) : Int), .int .i64 m.en, .bool false, .int .u64 0, .int .i64 0, .bool true, .bool false]
theorem mqn_of (hov : m.ph.over = false) : mqn m a T = if m.ph.fresh then ((mqc m a).setIfInBounds 8 (.bool true)).setIfInBounds 3 (.int .i64 T) else mqc m a := by
 obtain ⟨ins, val, th, ph, bg, en⟩ := m
 cases ph with
 | fin v e => cases hov
 | _ => rfl
theorem mqc_next {ph : QPh} (hov : m.ph.over = false) (hf : ph.fresh = false) : mqc (m.next T ph) a = if ph.over then (((((mqn m a T).setIfInBounds 9 (.bool true)).setIfInBounds 4 (.int .i64 T)).setIfInBounds 6 (.int .u64 ph.got)).setIfInBounds 7 (.int .i64 ph.er)).setIfInBounds 5 (.bool true) else (mqn m a T).setIfInBounds 9 (.bool false) := by
 obtain ⟨ins, val, th, ph0, bg, en⟩ := m
 cases ph with
 | start => cases hf
 | _ => rfl
set_option maxRecDepth 100000 in
set_option maxHeartbeats 4000000 in
theorem mqStep (h : QuM κ p d q n lines P t bs w σ) (W : QW sumI (atW 0) n 256 P q0 σ ms N T xs L ord) (hN : N < 1000000) (hi : ms[i]? = some m) (hM : MqM κ i p q t w gm a m) (hbs : bs m.th = some a) (hov : m.ph.over = false) :
 Calls Tryz.prog 30 #[.pointer (some ⟨gm, 0, none⟩), .int .i64 (T : Int)] w (MqStp κ i p d q gm a n P lines t w bs σ m T) := by
 have hkg := hM.kg
 obtain ⟨W1, hW1⟩ : ∃ W1, W1 = if m.ph.fresh then (w.setCell ⟨gm, 8, none⟩ (.bool true)).setCell ⟨gm, 3, none⟩ (.int .i64 T) else w := ⟨_, rfl⟩
 have hC1 : Ch (At gm) w W1 := by
  rw [hW1]
  split
  · exact ((Ch.refl _ _).set1 _ _).set1 _ _
  · exact Ch.refl _ _
 have hcb1 : CB W1 gm 39 (mqn m a T) := by
  rw [hW1, mqn_of hov]
  split
  · exact (hM.cb.set 8 _).set 3 _
  · exact hM.cb
 have hne : ∀ b, κ b = 2 * i + 4 ∨ κ b = 2 ∨ κ b = 1 → b ≠ gm := fun b hb he => by rw [he] at hb; omega
 have hQ1 : QuM κ p d q n lines P t bs W1 σ := ⟨h.pm.chK hC1 (fun b _ hb => by rw [show b = gm from hb]; omega), h.hq.keep (hC1.block q h.hq.lt (fun hx => hne q (.inr (.inl h.kq)) hx)), h.kq, h.tab.ch hC1 (fun hx => hne 0 (.inr (.inr h.k0)) hx), h.k0, h.hn, h.hP, h.hn2⟩
 have hO1 : OcM κ (2 * i + 4) p q t W1 a m := hM.oc.ch hC1 (fun b _ hb => by rw [show b = gm from hb]; omega) (fun _ _ => rfl)
 have hST := qoStep hQ1 W hN hi hO1 hbs (by omega) hov
 have HST : Hid (Calls Tryz.prog 47 #[.pointer (some ⟨a, 0, none⟩)] W1 fun e w2 => ∃ b, e = .returned (.bool b) ∧ w2.cell? ⟨gm, 9, none⟩ = some (.bool false) ∧ gm < w2.heap.size ∧ w2.frozen? ⟨gm, 9, none⟩ = false ∧
  ∃ bl, σ.ops bl.1 = none ∧ bl.2.Perm (List.range 3) ∧ b = (qStep sumI (atW 0) 256 P σ m bl).2.over ∧ CB w2 gm 39 (mqn m a T) ∧ QoPost κ (2 * i + 4) p d q a n lines t W1 bs (.bool b) (qStep sumI (atW 0) 256 P σ m bl).1 { m with ph := (qStep sumI (atW 0) 256 P σ m bl).2 } (.returned (.bool b)) w2) := hST.mono (fun e w2 => by
  rintro ⟨bl, h1, h2, h3⟩
  have h4 := h3
  obtain ⟨rfl, κ2, g1, g2, g3, g4, g5⟩ := h3
  have hk : CB w2 gm 39 (mqn m a T) := hcb1.keep (g5.block gm hcb1.lt (fun hx => by omega))
  exact ⟨_, rfl, hk.cell 9, hk.lt, hk.frozen 9, bl, h1, h2, rfl, hk, h4⟩)
 have HFIN : Hid (∀ (w2 w3 : World) (b : Bool) (bl : Nat × List Nat), σ.ops bl.1 = none → bl.2.Perm (List.range 3) → QoPost κ (2 * i + 4) p d q a n lines t W1 bs (.bool b) (qStep sumI (atW 0) 256 P σ m bl).1 { m with ph := (qStep sumI (atW 0) 256 P σ m bl).2 } (.returned (.bool b)) w2 → Ch (At gm) w2 w3 →
  CB w3 gm 39 (mqc (m.next T (qStep sumI (atW 0) 256 P σ m bl).2) a) → MqStp κ i p d q gm a n P lines t w bs σ m T (.returned (.tuple #[])) w3) := fun w2 w3 b bl h1 h2 h3 hC h4 => by
  obtain ⟨_, κ2, g1, g2, g3, g4, g5⟩ := h3
  have hgl : gm < W1.heap.size := hcb1.lt
  have hg2 : κ2 gm = 2 * i + 5 := (g1 gm hgl).trans hkg
  have hx : κ2 q = 2 := (g1 q hQ1.hq.lt).trans h.kq
  refine ⟨bl, h1, h2, rfl, κ2, fun b hb => g1 b (Nat.lt_of_lt_of_le hb hC1.size), g2.chK hC (fun b _ hb => by rw [show b = gm from hb]; omega), ⟨hg2, h4, ?_⟩, ?_, ?_⟩
  · exact (g3.ch hC (fun b _ hb => by rw [show b = gm from hb]; omega) (fun _ _ => rfl)).same rfl rfl rfl rfl
  · exact g4.keep (hC.block q g4.lt (fun hb => by rw [show q = gm from hb] at hx; omega))
  · refine ((hC1.mono (fun b hb _ => ?_)).trans g5 (fun b hb _ => ?_)).trans hC (fun b hb hl => ?_)
    · exact .inr (.inr (.inl (by rw [show b = gm from hb]; exact hkg)))
    · rcases hb with hb | hb | hb
      · exact .inl hb
      · exact .inr (.inl hb)
      · exact .inr (.inr (.inr hb))
    · exact .inr (.inr (.inl (by rw [show b = gm from hb]; exact hkg)))
 have HPH := Lib.hid (fun bl => qStep_ph (sum := sumI) (at0 := atW 0) (W := 256) (P := P) (σ := σ) (bl := bl) hov)
 have HOV := Lib.hid hov
 have HKG := Lib.hid hkg
 have HL1 := Lib.hid hcb1.lt
 obtain ⟨c0, c1, c2, c3, c4, c5, c6, c7, c8, c9⟩ : w.cell? ⟨gm, 0, none⟩ = some (.pointer (some ⟨a, 0, none⟩)) ∧ True ∧ True ∧ w.cell? ⟨gm, 3, none⟩ = some (.int .i64 m.bg) ∧ True ∧ True ∧ True ∧ True ∧ w.cell? ⟨gm, 8, none⟩ = some (.bool (!m.ph.fresh)) ∧ w.cell? ⟨gm, 9, none⟩ = some (.bool false) :=
  ⟨hM.cb.cell 0, trivial, trivial, hM.cb.cell 3, trivial, trivial, trivial, trivial, hM.cb.cell 8, by have := hM.cb.cell 9; rw [this]; show some (Value.bool m.ph.over) = _; rw [hov]⟩
 have hl := hM.cb.lt
 have f8 := hM.cb.frozen 8
 have f3 := hM.cb.frozen 3
 have k0 : W1.cell? ⟨gm, 0, none⟩ = some (.pointer (some ⟨a, 0, none⟩)) := hcb1.cell 0
 have hl1 : gm < W1.heap.size := hcb1.lt
 clear h W hN hi hbs hov hkg hC1 hcb1 hne hQ1 hO1 hST hM c1 c2 c4 c5 c6 c7
 obtain ⟨fr, hfr⟩ : ∃ fr, m.ph.fresh = fr := ⟨_, rfl⟩
 rw [hfr] at c8 hW1
 clear hfr
 cases fr with
 | true =>
   first | rw [if_pos rfl] at hW1 | rw [if_neg (by simp)] at hW1
   go_enter Tryz.func30, Tryz.ntmps30
   go_upto_region 3 with (fail)
   try rw [← hW1]
   clear c0 c3 c8 c9 f8 f3 hl
   have HW1 := Lib.hid hW1
   clear hW1
   go_upto_region 4 with (go_at_call 47; (with_reducible refine HST.out.mono ?_); rintro e w2 ⟨b, rfl, z9, zl, zf, bl, h1, h2, h3, h4, h5⟩; have H1 := Lib.hid h1; have H2 := Lib.hid h2; have H3 := Lib.hid h3; have H4 := Lib.hid h4; have H5 := Lib.hid h5; clear h1 h2 h3 h4 h5)
   clear HST k0 hl1
   have hC9 : CB (w2.setCell ⟨gm, 9, none⟩ (.bool b)) gm 39 ((mqn m a T).setIfInBounds 9 (.bool b)) := H4.out.set 9 _
   have hH9 : Ch (At gm) w2 (w2.setCell ⟨gm, 9, none⟩ (.bool b)) := (Ch.refl _ _).set1 _ _
   have hO9 : OcM κ (2 * i + 4) p q t w2 a m → True := fun _ => trivial
   obtain ⟨W3, hW3⟩ : ∃ W3, w2.setCell ⟨gm, 9, none⟩ (.bool b) = W3 := ⟨_, rfl⟩
   rw [hW3] at hC9 hH9 ⊢
   have z0 : W3.cell? ⟨gm, 0, none⟩ = some (.pointer (some ⟨a, 0, none⟩)) := hC9.cell 0
   have z9' : W3.cell? ⟨gm, 9, none⟩ = some (.bool b) := hC9.cell 9
   have zl3 := hC9.lt
   have g4 := hC9.frozen 4
   have g5 := hC9.frozen 5
   have g6 := hC9.frozen 6
   have g7 := hC9.frozen 7
   have y4 : W3.cell? ⟨gm, 4, none⟩ = some (.int .i64 m.en) := hC9.cell 4
   have y5 : W3.cell? ⟨gm, 5, none⟩ = some (.bool false) := hC9.cell 5
   have y6 : W3.cell? ⟨gm, 6, none⟩ = some (.int .u64 0) := hC9.cell 6
   have y7 : W3.cell? ⟨gm, 7, none⟩ = some (.int .i64 0) := hC9.cell 7
   have HC9 := Lib.hid hC9
   have HH9 := Lib.hid hH9
   clear hW3 z9 zl zf hC9 hH9 hO9
   cases b with
   | false =>
     go_wp2
     refine bodyPost_ret (v := .tuple #[]) (by simp [results, Tryz.results30, go_sem]) rfl (HFIN.out w2 W3 false bl H1.out H2.out H5.out HH9.out ?_)
     rw [mqc_next HOV.out (HPH.out bl).1, ← H3.out]
     exact HC9.out
   | true =>
     obtain ⟨v, e, hph⟩ : ∃ v e, (qStep sumI (atW 0) 256 P σ m bl).2 = .fin v e := by
      have := H3.out
      cases hp : (qStep sumI (atW 0) 256 P σ m bl).2 with
      | fin v e => exact ⟨v, e, rfl⟩
      | _ => rw [hp] at this; cases this
     have he3 : ¬ e = 3 := by have := (HPH.out bl).2 v e hph; omega
     have he7 : ¬ e = 7 := by have := (HPH.out bl).2 v e hph; omega
     have HVL : Hid (Calls Tryz.prog 22 #[.pointer (some ⟨a, 0, none⟩)] W3 (VlP v e W3)) := by
      obtain ⟨_, κ2, j1, j2, j3, j4, j5⟩ := H5.out
      have j6 : OcM κ2 (2 * i + 4) p q t W3 a { m with ph := (qStep sumI (atW 0) 256 P σ m bl).2 } := j3.ch HH9.out (fun b hl hb => by
       rw [show b = gm from hb]
       have e1 := j1 gm HL1.out
       have e2 := HKG.out
       omega) (fun _ _ => rfl)
      exact qoValue j6 hph
     have HPHV : Hid ((qStep sumI (atW 0) 256 P σ m bl).2 = .fin v e) := hph
     clear hph
     go_upto_region 6 with (go_at_call 22; (with_reducible refine HVL.out.mono ?_); rintro x w4 ⟨rfl, n4, rfl⟩)
     go_wp2
     refine bodyPost_ret (v := .tuple #[]) (by simp [results, Tryz.results30, go_sem]) rfl (HFIN.out w2 _ true bl H1.out H2.out H5.out (HH9.out.trans ((((((Ch.refl (At gm) W3).drewN n4).set1 4 _).set1 6 _).set1 7 _).set1 5 _) (fun b hb _ => hb)) ?_)
     rw [mqc_next HOV.out (HPH.out bl).1, ← H3.out, HPHV.out]
     simp only [if_true]
     have hbb : (e != 3 && e != 7) = true := by simp [he3, he7]
     rw [hbb]
     exact ((((HC9.out.drewN n4).set 4 _).set 6 _).set 7 _).set 5 _
 | false =>
   first | rw [if_pos rfl] at hW1 | rw [if_neg (by simp)] at hW1
   go_enter Tryz.func30, Tryz.ntmps30
   go_upto_region 3 with (fail)
   try rw [← hW1]
   clear c0 c3 c8 c9 f8 f3 hl
   have HW1 := Lib.hid hW1
   clear hW1
   go_upto_region 4 with (go_at_call 47; (with_reducible refine HST.out.mono ?_); rintro e w2 ⟨b, rfl, z9, zl, zf, bl, h1, h2, h3, h4, h5⟩; have H1 := Lib.hid h1; have H2 := Lib.hid h2; have H3 := Lib.hid h3; have H4 := Lib.hid h4; have H5 := Lib.hid h5; clear h1 h2 h3 h4 h5)
   clear HST k0 hl1
   have hC9 : CB (w2.setCell ⟨gm, 9, none⟩ (.bool b)) gm 39 ((mqn m a T).setIfInBounds 9 (.bool b)) := H4.out.set 9 _
   have hH9 : Ch (At gm) w2 (w2.setCell ⟨gm, 9, none⟩ (.bool b)) := (Ch.refl _ _).set1 _ _
   have hO9 : OcM κ (2 * i + 4) p q t w2 a m → True := fun _ => trivial
   obtain ⟨W3, hW3⟩ : ∃ W3, w2.setCell ⟨gm, 9, none⟩ (.bool b) = W3 := ⟨_, rfl⟩
   rw [hW3] at hC9 hH9 ⊢
   have z0 : W3.cell? ⟨gm, 0, none⟩ = some (.pointer (some ⟨a, 0, none⟩)) := hC9.cell 0
   have z9' : W3.cell? ⟨gm, 9, none⟩ = some (.bool b) := hC9.cell 9
   have zl3 := hC9.lt
   have g4 := hC9.frozen 4
   have g5 := hC9.frozen 5
   have g6 := hC9.frozen 6
   have g7 := hC9.frozen 7
   have y4 : W3.cell? ⟨gm, 4, none⟩ = some (.int .i64 m.en) := hC9.cell 4
   have y5 : W3.cell? ⟨gm, 5, none⟩ = some (.bool false) := hC9.cell 5
   have y6 : W3.cell? ⟨gm, 6, none⟩ = some (.int .u64 0) := hC9.cell 6
   have y7 : W3.cell? ⟨gm, 7, none⟩ = some (.int .i64 0) := hC9.cell 7
   have HC9 := Lib.hid hC9
   have HH9 := Lib.hid hH9
   clear hW3 z9 zl zf hC9 hH9 hO9
   cases b with
   | false =>
     go_wp2
     refine bodyPost_ret (v := .tuple #[]) (by simp [results, Tryz.results30, go_sem]) rfl (HFIN.out w2 W3 false bl H1.out H2.out H5.out HH9.out ?_)
     rw [mqc_next HOV.out (HPH.out bl).1, ← H3.out]
     exact HC9.out
   | true =>
     obtain ⟨v, e, hph⟩ : ∃ v e, (qStep sumI (atW 0) 256 P σ m bl).2 = .fin v e := by
      have := H3.out
      cases hp : (qStep sumI (atW 0) 256 P σ m bl).2 with
      | fin v e => exact ⟨v, e, rfl⟩
      | _ => rw [hp] at this; cases this
     have he3 : ¬ e = 3 := by have := (HPH.out bl).2 v e hph; omega
     have he7 : ¬ e = 7 := by have := (HPH.out bl).2 v e hph; omega
     have HVL : Hid (Calls Tryz.prog 22 #[.pointer (some ⟨a, 0, none⟩)] W3 (VlP v e W3)) := by
      obtain ⟨_, κ2, j1, j2, j3, j4, j5⟩ := H5.out
      have j6 : OcM κ2 (2 * i + 4) p q t W3 a { m with ph := (qStep sumI (atW 0) 256 P σ m bl).2 } := j3.ch HH9.out (fun b hl hb => by
       rw [show b = gm from hb]
       have e1 := j1 gm HL1.out
       have e2 := HKG.out
       omega) (fun _ _ => rfl)
      exact qoValue j6 hph
     have HPHV : Hid ((qStep sumI (atW 0) 256 P σ m bl).2 = .fin v e) := hph
     clear hph
     go_upto_region 6 with (go_at_call 22; (with_reducible refine HVL.out.mono ?_); rintro x w4 ⟨rfl, n4, rfl⟩)
     go_wp2
     refine bodyPost_ret (v := .tuple #[]) (by simp [results, Tryz.results30, go_sem]) rfl (HFIN.out w2 _ true bl H1.out H2.out H5.out (HH9.out.trans ((((((Ch.refl (At gm) W3).drewN n4).set1 4 _).set1 6 _).set1 7 _).set1 5 _) (fun b hb _ => hb)) ?_)
     rw [mqc_next HOV.out (HPH.out bl).1, ← H3.out, HPHV.out]
     simp only [if_true]
     have hbb : (e != 3 && e != 7) = true := by simp [he3, he7]
     rw [hbb]
     exact ((((HC9.out.drewN n4).set 4 _).set 6 _).set 7 _).set 5 _
end
/-- The cells of a call that has not begun. -/
def qocell0 (q th : Nat) (ins : Bool) (val : Int) : Array Value := qocells q th ins val 0 none none 0 0 0 false
section
variable {κ κ' : Nat → Nat} {K : Nat → Prop} {r p d q a gm g n P lines N T i : Nat} {t : Nat → Nat} {w w' : World} {σ σ' : PwS} {bs : Nat → Option Nat} {size : Int}
/-- What begin leaves. -/
def QbPost (q d p lines th : Nat) (ins : Bool) (val : Int) (bs : Nat → Option Nat) (w : World) (e : Ending) (w' : World) : Prop :=
 ∃ a, e = .returned (.tuple #[.pointer (some ⟨a, 0, none⟩), .int .i64 0]) ∧ w.heap.size ≤ a ∧ CB w' a 106 (qocell0 q th ins val) ∧ CB w' q 93 (qcells d p 2048 lines (fun i => if i = th then some a else bs i)) ∧ Ch (At q) w w'
set_option maxRecDepth 100000 in
set_option maxHeartbeats 2000000 in
theorem quBegin (H : PMx K p d t 0 32 size w σ) (hq : CB w q 93 (qcells d p 2048 lines bs)) (th : Nat) (hth : th < 8) (hbs : bs th = none) (herr : (σ.dev.thr th).err = 0) (ins : Bool) (val : Int) (hv : 0 ≤ val ∧ val < 1099511627776) :
 Calls Tryz.prog 43 #[.pointer (some ⟨q, 0, none⟩), .int .i64 (th : Int), .agg #[.pointer none, .int .i64 0, .bool ins, .int .u64 val, .int .u8 0, .pointer none, .pointer none, .int .u64 0, .int .u64 0, .int .i64 0, .bool false]] w (QbPost q d p lines th ins val bs w) := by
 have HTH : Hid (∀ W, Below w.heap.size w W → Calls Tryz.prog 35 #[.pointer (some ⟨d, 0, none⟩), .int .i64 (th : Int)] W fun e w' => e = .returned (.pointer (some ⟨t th, 0, none⟩)) ∧ W = w') := fun W hW => by
  obtain ⟨role, bb, h, hK⟩ := H.bl0 hW
  exact vThread h.dv th hth
 have HER : Hid (∀ W, Below w.heap.size w W → Calls Tryz.prog 62 #[.pointer (some ⟨t th, 0, none⟩)] W fun e w' => e = .returned (.int .i64 0) ∧ W = w') := fun W hW => by
  obtain ⟨role, bb, h, hK⟩ := H.bl0 hW
  have := vErr h.dv th hth
  rwa [herr] at this
 obtain ⟨q0, q1, q2, q3, ql⟩ := hq.qc
 have qt := hq.qth hth
 rw [hbs, optP_none] at qt
 have qf := hq.frozen (4 + th)
 have hthI : (th : Int) < 8 := by omega
 have hth0 : ¬ (th : Int) < 0 := by omega
 have hth8 : ¬ (8 : Int) ≤ (th : Int) := by omega
 have hvl : ¬ (1099511627776 : Int) ≤ val := by omega
 have hS := Lib.hid (fun a => qcells_set (d := d) (p := p) (lines := lines) (base := 2048) (bs := bs) hth (some a))
 have HQ := Lib.hid hq
 clear H hq hbs herr hv hth
 go_enter Tryz.func43, Tryz.ntmps43
 go_wp2_with (first
  | (go_at_call 35; (with_reducible refine (HTH.out _ (by (repeat (first | with_reducible (first | exact Below.refl _ _ | refine bl_alloc ?_ _ | refine bl_drew ?_ | refine bl_drewN ?_ _ | refine bl_bx ?_ _ | exact BX.below _ | refine bl_set ?_ (by first | (exact Nat.le_refl _) | (simp; done) | (simp; omega)) _) | assumption)))).mono ?_); rintro e w' ⟨rfl, rfl⟩)
  | (go_at_call 62; (with_reducible refine (HER.out _ (by (repeat (first | with_reducible (first | exact Below.refl _ _ | refine bl_alloc ?_ _ | refine bl_drew ?_ | refine bl_drewN ?_ _ | refine bl_bx ?_ _ | exact BX.below _ | refine bl_set ?_ (by first | (exact Nat.le_refl _) | (simp; done) | (simp; omega)) _) | assumption)))).mono ?_); rintro e w' ⟨rfl, rfl⟩))
 have h2 := HQ.out.set (4 + th) (optP (some w.heap.size))
 rw [hS.out] at h2
 have hsz : w.heap.size = (w.setCell ⟨q, 4 + th, none⟩ (.pointer (some ⟨w.heap.size, 0, none⟩))).heap.size := by simp
 exact bodyPost_ret (v := .tuple #[.pointer (some ⟨w.heap.size, 0, none⟩), .int .i64 0]) (by simp [results, Tryz.results43, go_sem]) rfl ⟨w.heap.size, rfl, Nat.le_refl _, CB.new_at _ _ _ hsz, h2.below (bl_alloc (Below.refl _ _) _), ((Ch.refl (At q) w).set1 _ _).alloc _⟩
set_option maxRecDepth 100000 in
set_option maxHeartbeats 2000000 in
theorem quEnq (H : PMx K p d t 0 32 size w σ) (hq : CB w q 93 (qcells d p 2048 lines bs)) (th : Nat) (hth : th < 8) (hbs : bs th = none) (herr : (σ.dev.thr th).err = 0) (val : Int) (hv : 0 ≤ val ∧ val < 1099511627776) :
 Calls Tryz.prog 19 #[.pointer (some ⟨q, 0, none⟩), .int .i64 (th : Int), .int .u64 val] w (QbPost q d p lines th true val bs w) := by
 have HB := Lib.hid (quBegin H hq th hth hbs herr true val hv)
 clear H hq hbs herr hv hth
 go_enter Tryz.func19, Tryz.ntmps19
 go_wp2_with (go_at_call 43; (with_reducible refine HB.out.mono ?_); rintro e w1 ⟨a, rfl, h1, h2, h3, h4⟩; have H1 := Lib.hid h1; have H2 := Lib.hid h2; have H3 := Lib.hid h3; have H4 := Lib.hid h4; clear h1 h2 h3 h4)
 exact bodyPost_ret (v := .tuple #[.pointer (some ⟨a, 0, none⟩), .int .i64 0]) (by simp [results, Tryz.results19, go_sem]) rfl ⟨a, rfl, H1.out, H2.out, H3.out, H4.out⟩
set_option maxRecDepth 100000 in
set_option maxHeartbeats 2000000 in
theorem quDeq (H : PMx K p d t 0 32 size w σ) (hq : CB w q 93 (qcells d p 2048 lines bs)) (th : Nat) (hth : th < 8) (hbs : bs th = none) (herr : (σ.dev.thr th).err = 0) :
 Calls Tryz.prog 20 #[.pointer (some ⟨q, 0, none⟩), .int .i64 (th : Int)] w (QbPost q d p lines th false 0 bs w) := by
 have HB := Lib.hid (quBegin H hq th hth hbs herr false 0 ⟨by omega, by omega⟩)
 clear H hq hbs herr hth
 go_enter Tryz.func20, Tryz.ntmps20
 go_wp2_with (go_at_call 43; (with_reducible refine HB.out.mono ?_); rintro e w1 ⟨a, rfl, h1, h2, h3, h4⟩; have H1 := Lib.hid h1; have H2 := Lib.hid h2; have H3 := Lib.hid h3; have H4 := Lib.hid h4; clear h1 h2 h3 h4)
 exact bodyPost_ret (v := .tuple #[.pointer (some ⟨a, 0, none⟩), .int .i64 0]) (by simp [results, Tryz.results20, go_sem]) rfl ⟨a, rfl, H1.out, H2.out, H3.out, H4.out⟩
/-- A call that is prepared. -/
def qm0 (put : Bool) (val : Int) (th : Nat) : QM := ⟨put, val % 1099511627776, th, .start, 0, 0⟩
def BgP30 (q d p lines th : Nat) (put : Bool) (val : Int) (bs : Nat → Option Nat) (w : World) (e : Ending) (w' : World) : Prop :=
 ∃ gm a, e = .returned (.tuple #[.pointer (some ⟨gm, 0, none⟩), .int .i64 0]) ∧ w.heap.size ≤ gm ∧ w.heap.size ≤ a ∧ a ≠ gm ∧ CB w' gm 39 (mqc (qm0 put val th) a) ∧ CB w' a 106 (qocell0 q th put (if put then val % 1099511627776 else 0)) ∧ CB w' q 93 (qcells d p 2048 lines (fun i => if i = th then some a else bs i)) ∧ Ch (At q) w w'
end
section
variable {κ κ' : Nat → Nat} {K : Nat → Prop} {r p d q a gm g n P lines N T i : Nat} {t : Nat → Nat} {w w' : World} {σ σ' : PwS} {bs : Nat → Option Nat} {size : Int}
set_option maxRecDepth 100000 in
set_option maxHeartbeats 2000000 in
theorem fbegin30 (H : PMx K p d t 0 32 size w σ) (hq : CB w q 93 (qcells d p 2048 lines bs)) (th : Nat) (hth : th < 8) (hbs : bs th = none) (herr : (σ.dev.thr th).err = 0) (put : Bool) (val thr : Int) (hv : 0 ≤ val ∧ val < 18446744073709551616) :
 Calls Tryz.prog 29 #[.pointer (some ⟨q, 0, none⟩), .agg #[.bool put, .int .u64 val, .int .i64 thr], .int .i64 (th : Int)] w (BgP30 q d p lines th put val bs w) := by
 have hvr : 0 ≤ val % 1099511627776 ∧ val % 1099511627776 < 1099511627776 := by omega
 have e1 := wb_lim val hv
 obtain ⟨vm, hvm⟩ : ∃ vm, val % 1099511627776 = vm := ⟨_, rfl⟩
 have HVM : Hid (val % 1099511627776 = vm) := hvm
 rw [hvm] at e1 hvr
 have HEN := Lib.hid (fun (W : World) (hW : Below w.heap.size w W) => quEnq (H.bl0 hW) (hq.below hW) th hth hbs herr vm hvr)
 have HDE := Lib.hid (fun (W : World) (hW : Below w.heap.size w W) => quDeq (H.bl0 hW) (hq.below hW) th hth hbs herr)
 have hql := hq.lt
 have HFIN : Hid (∀ (W w1 : World) (a : Nat), Below w.heap.size w W → CB W (w.heap.size + 1) 39 #[.pointer none, .bool put, .int .u64 vm, .int .i64 0, .int .i64 0, .bool false, .int .u64 0, .int .i64 0, .bool false, .bool false] → W.heap.size ≤ a → CB w1 a 106 (qocell0 q th put (if put then vm else 0)) → CB w1 q 93 (qcells d p 2048 lines (fun i => if i = th then some a else bs i)) → Ch (At q) W w1 →
  BgP30 q d p lines th put val bs w (.returned (.tuple #[.pointer (some ⟨w.heap.size + 1, 0, none⟩), .int .i64 0])) (w1.setCell ⟨w.heap.size + 1, 0, none⟩ (.pointer (some ⟨a, 0, none⟩)))) := fun W w1 a hW hC h1 h2 h3 h4 => by
  have hl := hC.lt
  have hqne : w.heap.size + 1 ≠ q := by omega
  have hC1 := hC.keep (h4.block _ hC.lt (fun hx => hqne hx))
  have hane : a ≠ w.heap.size + 1 := by omega
  refine ⟨w.heap.size + 1, a, rfl, by omega, by omega, hane, ?_, ?_, h3.far (p := ⟨w.heap.size + 1, 0, none⟩) (Ne.symm hqne) _, ?_⟩
  · have := hC1.set 0 (.pointer (some ⟨a, 0, none⟩))
    unfold qm0
    rw [HVM.out]
    exact this
  · rw [HVM.out]
    exact h2.far (p := ⟨w.heap.size + 1, 0, none⟩) hane _
  · have h5 : Ch (At q) w w1 := (Ch.of_below (S := At q) hW).trans h4 (fun b hb _ => hb)
    exact ⟨h5.os, h5.tape, h5.output, by simpa using h5.size, fun b hb hS => (Below.heap_setCell _ _ _ _ (by show b ≠ w.heap.size + 1; omega)).trans (h5.block b hb hS)⟩
 clear H hq hbs herr hth hvr hvm hv
 cases put with
 | true =>
   have hC0 : CB ((w.alloc (.cells #[.bool true, .int .u64 val, .int .i64 thr] 44)).alloc (.cells #[.pointer none, .bool true, .int .u64 vm, .int .i64 0, .int .i64 0, .bool false, .int .u64 0, .int .i64 0, .bool false, .bool false] 39)) (w.heap.size + 1) 39 #[.pointer none, .bool true, .int .u64 vm, .int .i64 0, .int .i64 0, .bool false, .int .u64 0, .int .i64 0, .bool false, .bool false] := CB.new_at _ _ _ (by simp)
   have HC0 := Lib.hid hC0
   have HB0 : Hid (Below w.heap.size w ((w.alloc (.cells #[.bool true, .int .u64 val, .int .i64 thr] 44)).alloc (.cells #[.pointer none, .bool true, .int .u64 vm, .int .i64 0, .int .i64 0, .bool false, .int .u64 0, .int .i64 0, .bool false, .bool false] 39))) := by show Below _ _ _; (repeat (first | with_reducible (first | exact Below.refl _ _ | refine bl_alloc ?_ _ | refine bl_drew ?_ | refine bl_drewN ?_ _ | refine bl_bx ?_ _ | exact BX.below _ | refine bl_set ?_ (by first | (exact Nat.le_refl _) | (simp; done) | (simp; omega)) _) | assumption))
   clear hC0
   go_enter Tryz.func29, Tryz.ntmps29
   go_wp2_with (go_at_call 19; (with_reducible refine (HEN.out _ (by (repeat (first | with_reducible (first | exact Below.refl _ _ | refine bl_alloc ?_ _ | refine bl_drew ?_ | refine bl_drewN ?_ _ | refine bl_bx ?_ _ | exact BX.below _ | refine bl_set ?_ (by first | (exact Nat.le_refl _) | (simp; done) | (simp; omega)) _) | assumption)))).mono ?_); rintro e w1 ⟨a, rfl, h1, h2, h3, h4⟩; have H1 := Lib.hid h1; have H2 := Lib.hid h2; have H3 := Lib.hid h3; have H4 := Lib.hid h4; have hG : CB w1 (w.heap.size + 1) 39 #[.pointer none, .bool true, .int .u64 vm, .int .i64 0, .int .i64 0, .bool false, .int .u64 0, .int .i64 0, .bool false, .bool false] := (HC0.out.keep (h4.block _ HC0.out.lt (fun hx => (by have hx : w.heap.size + 1 = q := hx; omega)))); have y0 : w1.cell? ⟨w.heap.size + 1, 0, none⟩ = some (.pointer none) := hG.cell 0; have yf := hG.frozen 0; have yl := hG.lt; clear h1 h2 h3 h4 hG)
   exact bodyPost_ret (v := .tuple #[.pointer (some ⟨w.heap.size + 1, 0, none⟩), .int .i64 0]) (by simp [results, Tryz.results29, go_sem]) rfl (HFIN.out _ w1 a HB0.out HC0.out H1.out H2.out H3.out H4.out)
 | false =>
   have hC0 : CB ((w.alloc (.cells #[.bool false, .int .u64 val, .int .i64 thr] 44)).alloc (.cells #[.pointer none, .bool false, .int .u64 vm, .int .i64 0, .int .i64 0, .bool false, .int .u64 0, .int .i64 0, .bool false, .bool false] 39)) (w.heap.size + 1) 39 #[.pointer none, .bool false, .int .u64 vm, .int .i64 0, .int .i64 0, .bool false, .int .u64 0, .int .i64 0, .bool false, .bool false] := CB.new_at _ _ _ (by simp)
   have HC0 := Lib.hid hC0
   have HB0 : Hid (Below w.heap.size w ((w.alloc (.cells #[.bool false, .int .u64 val, .int .i64 thr] 44)).alloc (.cells #[.pointer none, .bool false, .int .u64 vm, .int .i64 0, .int .i64 0, .bool false, .int .u64 0, .int .i64 0, .bool false, .bool false] 39))) := by show Below _ _ _; (repeat (first | with_reducible (first | exact Below.refl _ _ | refine bl_alloc ?_ _ | refine bl_drew ?_ | refine bl_drewN ?_ _ | refine bl_bx ?_ _ | exact BX.below _ | refine bl_set ?_ (by first | (exact Nat.le_refl _) | (simp; done) | (simp; omega)) _) | assumption))
   clear hC0
   go_enter Tryz.func29, Tryz.ntmps29
   go_wp2_with (go_at_call 20; (with_reducible refine (HDE.out _ (by (repeat (first | with_reducible (first | exact Below.refl _ _ | refine bl_alloc ?_ _ | refine bl_drew ?_ | refine bl_drewN ?_ _ | refine bl_bx ?_ _ | exact BX.below _ | refine bl_set ?_ (by first | (exact Nat.le_refl _) | (simp; done) | (simp; omega)) _) | assumption)))).mono ?_); rintro e w1 ⟨a, rfl, h1, h2, h3, h4⟩; have H1 := Lib.hid h1; have H2 := Lib.hid h2; have H3 := Lib.hid h3; have H4 := Lib.hid h4; have hG : CB w1 (w.heap.size + 1) 39 #[.pointer none, .bool false, .int .u64 vm, .int .i64 0, .int .i64 0, .bool false, .int .u64 0, .int .i64 0, .bool false, .bool false] := (HC0.out.keep (h4.block _ HC0.out.lt (fun hx => (by have hx : w.heap.size + 1 = q := hx; omega)))); have y0 : w1.cell? ⟨w.heap.size + 1, 0, none⟩ = some (.pointer none) := hG.cell 0; have yf := hG.frozen 0; have yl := hG.lt; clear h1 h2 h3 h4 hG)
   exact bodyPost_ret (v := .tuple #[.pointer (some ⟨w.heap.size + 1, 0, none⟩), .int .i64 0]) (by simp [results, Tryz.results29, go_sem]) rfl (HFIN.out _ w1 a HB0.out HC0.out H1.out H2.out H3.out H4.out)
end
def RC30 : Bool × Int × Int := (false, 0, 0)
/-- A view of calls that are left. -/
def LfV (κ : Nat → Nat) (w : World) (A : Option Addr) (n c : Nat) (l : List (Bool × Int × Int)) : Prop :=
 l.length = n ∧ n ≤ c ∧ (0 < n → ∃ g off, A = some ⟨g, off, none⟩ ∧ κ g = 1 ∧ g < w.heap.size ∧ ∀ k, k < n → w.cell? ⟨g, off + k * 3, none⟩ = some (.bool (l.getD k RC30).1) ∧ w.cell? ⟨g, off + k * 3 + 1, none⟩ = some (.int .u64 (l.getD k RC30).2.1) ∧ w.cell? ⟨g, off + k * 3 + 2, none⟩ = some (.int .i64 (l.getD k RC30).2.2))
def mkC (c : Bool × Int × Int) : Bool × Int := (c.1, c.2.1 % 1099511627776)
def nowV (now : Nat → Option Nat) (gs : List Nat) (t : Nat) : Value := optP ((now t).map fun i => gs.getD i 0)
def mpV (g : Nat) : Value := .pointer (some ⟨g, 0, none⟩)
/-- The blocks of a run. -/
structure RqB where
 bn : Nat
 bl : Nat
 bq : Nat
 bm : Nat
 bt : Nat
 an : Nat
 al : Nat
structure RqB.Ok (B : RqB) (κ : Nat → Nat) (Am : Option Addr) : Prop where
 kn : κ B.bn = 1
 kl : κ B.bl = 1
 kq : κ B.bq = 1
 km : κ B.bm = 3
 kt : κ B.bt = 3
 ka : κ B.an = 3
 kc : κ B.al = 3
 n1 : B.bm ≠ B.bt
 n2 : B.bm ≠ B.an
 n3 : B.bm ≠ B.al
 n4 : B.bt ≠ B.an
 n5 : B.bt ≠ B.al
 n6 : B.an ≠ B.al
 am : ∀ b, OwnB Am b → κ b = 3 ∧ b ≠ B.bm ∧ b ≠ B.bt ∧ b ≠ B.an ∧ b ≠ B.al
/-- A run in memory: its variables, its machines, the queue. -/
structure RqM (κ : Nat → Nat) (p d q n lines P : Nat) (t : Nat → Nat) (B : RqB) (rl : Nat → List (Bool × Int × Int)) (A : Nat → Option Addr) (cp : Nat → Nat) (now : Nat → Option Nat) (ms : List QM) (gs oz : List Nat) (Am : Option Addr) (cm : Nat) (bs : Nat → Option Nat) (w : World) (σ : PwS) (T : Nat) : Prop where
 qu : QuM κ p d q n lines P t bs w σ
 bi : ∀ (i : Nat) (m : QM), ms[i]? = some m → m.ph.over = false → bs m.th = some (oz.getD i 0)
 bo : ∀ th, (∀ (i : Nat) (m : QM), ms[i]? = some m → m.ph.over = false → m.th ≠ th) → bs th = none
 mm : ∀ (i : Nat) (m : QM), ms[i]? = some m → MqM κ i p q t w (gs.getD i 0) (oz.getD i 0) m
 lg : gs.length = ms.length
 la : oz.length = ms.length
 cn : CB w B.bn 29 #[.slice (some ⟨B.an, 0, none⟩) 3 3]
 cl : CB w B.bl 89 #[.slice (some ⟨B.al, 0, none⟩) 3 3]
 cq : CB w B.bq 25 #[.pointer (some ⟨q, 0, none⟩)]
 cm_ : CB w B.bm 29 #[.slice Am ms.length cm]
 ct : CB w B.bt 3 #[.int .i64 T]
 ca : CB w B.an 33 #[nowV now gs 0, nowV now gs 1, nowV now gs 2]
 cc : CB w B.al 22 #[.slice (A 0) (rl 0).length (cp 0), .slice (A 1) (rl 1).length (cp 1), .slice (A 2) (rl 2).length (cp 2)]
 sl : Sl 33 1 w Am ms.length cm (gs.map mpV)
 bk : B.Ok κ Am
 lv : ∀ s, s < 3 → LfV κ w (A s) (rl s).length (cp s) (rl s)
section
variable {κ κ' : Nat → Nat} {p d q n lines P N T i s : Nat} {t : Nat → Nat} {B : RqB} {rl rl' : Nat → List (Bool × Int × Int)} {A : Nat → Option Addr} {cp : Nat → Nat} {now : Nat → Option Nat} {ms : List QM} {gs oz : List Nat} {Am : Option Addr} {cm : Nat} {bs : Nat → Option Nat} {w w' : World} {σ σ' : PwS} {m m' : QM}
theorem LfV.keep {A : Option Addr} {n c : Nat} {l : List (Bool × Int × Int)} (h : LfV κ w A n c l) (hs : w.heap.size ≤ w'.heap.size) (hb : ∀ b, b < w.heap.size → κ b = 1 → w'.heap[b]? = w.heap[b]? ∧ κ' b = 1) : LfV κ' w' A n c l := by
 refine ⟨h.1, h.2.1, fun hn => ?_⟩
 obtain ⟨g, off, e1, e2, e3, e4⟩ := h.2.2 hn
 obtain ⟨f1, f2⟩ := hb g e3 e2
 have hc : ∀ o, w'.cell? ⟨g, o, none⟩ = w.cell? ⟨g, o, none⟩ := fun o => by unfold World.cell?; dsimp only; rw [f1]
 exact ⟨g, off, e1, f2, Nat.lt_of_lt_of_le e3 hs, fun k hk => by rw [hc, hc, hc]; exact e4 k hk⟩
theorem mem_ms_lt {i : Nat} {m : QM} (h : ms[i]? = some m) : i < ms.length := (List.getElem?_eq_some_iff.1 h).1
/-- Behind a step of machine i. -/
theorem RqM.stepped (h : RqM κ p d q n lines P t B rl A cp now ms gs oz Am cm bs w σ T) (hi : ms[i]? = some m) (hov : m.ph.over = false) (hth : m'.th = m.th) (hone : ∀ (j : Nat) (mj : QM), ms[j]? = some mj → mj.ph.over = false → mj.th = m.th → j = i)
 (hk : ∀ b, b < w.heap.size → κ' b = κ b) (hP : PMx (fun b => κ' b ≠ 0) p d t 0 32 ((n : Int) * 64) w' σ') (hM : MqM κ' i p q t w' (gs.getD i 0) (oz.getD i 0) m') (hq : CB w' q 93 (qcells d p 2048 lines (bsA m' bs))) (hC : Ch (fun b => κ b = 0 ∨ κ b = 2 * i + 4 ∨ κ b = 2 * i + 5 ∨ κ b = 2) w w') :
 RqM κ' p d q n lines P t B rl A cp now (ms.set i m') gs oz Am cm (bsA m' bs) w' σ' T := by
 have hil := mem_ms_lt hi
 have keep : ∀ {b : Nat} {ty : TypeId} {vs : Array Value}, CB w b ty vs → (κ b = 1 ∨ κ b = 3) → CB w' b ty vs := fun {b ty vs} hb hr => hb.keep (hC.block b hb.lt (fun hs => by omega))
 have hkk : ∀ {b : Nat} {ty : TypeId} {vs : Array Value}, CB w b ty vs → κ' b = κ b := fun {b ty vs} hb => hk b hb.lt
 have hset : ∀ (j : Nat) (mj : QM), (ms.set i m')[j]? = some mj → (j = i ∧ mj = m') ∨ (j ≠ i ∧ ms[j]? = some mj) := fun j mj hj => qget_cases hi hj
 have h0 : (0 : Nat) < w.heap.size := h.qu.tab.1
 refine ⟨⟨hP, hq, by rw [hkk h.qu.hq]; exact h.qu.kq, h.qu.tab.ch hC (fun hx => by have := h.qu.k0; omega), by rw [hk 0 h0]; exact h.qu.k0, h.qu.hn, h.qu.hP, h.qu.hn2⟩, fun j mj hj ho => ?_, fun th hall => ?_, fun j mj hj => ?_, by rw [List.length_set]; exact h.lg, by rw [List.length_set]; exact h.la, keep h.cn (.inl h.bk.kn), keep h.cl (.inl h.bk.kl), keep h.cq (.inl h.bk.kq), by rw [List.length_set]; exact keep h.cm_ (.inr h.bk.km), keep h.ct (.inr h.bk.kt), keep h.ca (.inr h.bk.ka), keep h.cc (.inr h.bk.kc), ?_, ?_, fun s hs => (h.lv s hs).keep hC.size (fun b hb hb1 => ⟨hC.block b hb (fun hx => by omega), by rw [hk b hb]; exact hb1⟩)⟩
 · rcases hset j mj hj with ⟨e1, e2⟩ | ⟨e1, e2⟩
   · subst e1 e2
     unfold bsA
     rw [ho]
     simp only [Bool.false_eq_true, if_false]
     rw [hth]
     exact h.bi j m hi hov
   · have hb := h.bi j mj e2 ho
     unfold bsA
     split
     · have hne : mj.th ≠ m'.th := fun hx => e1 (hone j mj e2 ho (by rw [hx, hth]))
       exact (if_neg hne).trans hb
     · exact hb
 · unfold bsA
   have hot : ∀ (hx : m'.th ≠ th), bs th = none := fun hx => h.bo th (fun j mj hj ho => by
    by_cases hji : j = i
    · subst hji
      rw [hi] at hj
      injection hj with hj
      rw [← hj, ← hth]; exact hx
    · exact hall j mj (by rw [List.getElem?_set_ne (Ne.symm hji)]; exact hj) ho)
   split
   · rename_i hov'
     by_cases hx : th = m'.th
     · exact if_pos hx
     · exact (if_neg hx).trans (hot (Ne.symm hx))
   · rename_i hov'
     exact hot (hall i m' (List.getElem?_set_self hil) (by simpa using hov'))
 · rcases hset j mj hj with ⟨e1, e2⟩ | ⟨e1, e2⟩
   · rw [e1, e2]; exact hM
   · exact (h.mm j mj e2).ch hC (fun b _ hb => by omega) hk
 · rw [List.length_set]
   exact h.sl.keep (fun b hb => hC.block b (h.sl.lt hb) (fun hx => by have := (h.bk.am b hb).1; omega))
 · exact ⟨by rw [hkk h.cn]; exact h.bk.kn, by rw [hkk h.cl]; exact h.bk.kl, by rw [hkk h.cq]; exact h.bk.kq, by rw [hkk h.cm_]; exact h.bk.km, by rw [hkk h.ct]; exact h.bk.kt, by rw [hkk h.ca]; exact h.bk.ka, by rw [hkk h.cc]; exact h.bk.kc, h.bk.n1, h.bk.n2, h.bk.n3, h.bk.n4, h.bk.n5, h.bk.n6, fun b hb => ⟨by rw [hk b (h.sl.lt hb)]; exact (h.bk.am b hb).1, (h.bk.am b hb).2⟩⟩
/-- A cell of the run's own blocks changes: what is elsewhere stays. -/
theorem RqM.tick (h : RqM κ p d q n lines P t B rl A cp now ms gs oz Am cm bs w σ T) : RqM κ p d q n lines P t B rl A cp now ms gs oz Am cm bs (w.setCell ⟨B.bt, 0, none⟩ (.int .i64 ((T + 1 : Nat) : Int))) σ (T + 1) := by
 have hC : Ch (At B.bt) w (w.setCell ⟨B.bt, 0, none⟩ (.int .i64 ((T + 1 : Nat) : Int))) := (Ch.refl _ _).set1 _ _
 have hkt := h.bk.kt
 have keep : ∀ {b : Nat} {ty : TypeId} {vs : Array Value}, CB w b ty vs → b ≠ B.bt → CB (w.setCell ⟨B.bt, 0, none⟩ (.int .i64 ((T + 1 : Nat) : Int))) b ty vs := fun {b ty vs} hb hr => hb.keep (hC.block b hb.lt hr)
 have hne : ∀ {b : Nat}, κ b ≠ 3 → b ≠ B.bt := fun {b} hb he => hb (by rw [he]; exact hkt)
 refine ⟨⟨h.qu.pm.chK hC (fun b _ hb => by rw [show b = B.bt from hb]; omega), keep h.qu.hq (hne (by have := h.qu.kq; omega)), h.qu.kq, h.qu.tab.ch hC (fun hx => hne (b := 0) (by have := h.qu.k0; omega) hx), h.qu.k0, h.qu.hn, h.qu.hP, h.qu.hn2⟩, h.bi, h.bo, fun j mj hj => (h.mm j mj hj).ch hC (fun b _ hb => by rw [show b = B.bt from hb]; omega) (fun _ _ => rfl), h.lg, h.la, keep h.cn (hne (by have := h.bk.kn; omega)), keep h.cl (hne (by have := h.bk.kl; omega)), keep h.cq (hne (by have := h.bk.kq; omega)), keep h.cm_ h.bk.n1, ?_, keep h.ca (Ne.symm h.bk.n4), keep h.cc (Ne.symm h.bk.n5), h.sl.keep (fun b hb => hC.block b (h.sl.lt hb) (h.bk.am b hb).2.2.1), h.bk, fun s hs => (h.lv s hs).keep hC.size (fun b hb hb1 => ⟨hC.block b hb (hne (by omega)), hb1⟩)⟩
 exact h.ct.set 0 _
end
/-- Blocks that are not the pool's change, and new ones are not the pool's. -/
theorem PMx.chQ {K T : Nat → Prop} {p d line lines : Nat} {t : Nat → Nat} {size : Int} {w w' : World} {σ : PwS} (h : PMx K p d t line lines size w σ) (hc : Ch T w w') (hT : ∀ b, b < w.heap.size → T b → K b) : PMx (fun b => K b ∨ (w.heap.size ≤ b ∧ b < w'.heap.size)) p d t line lines size w' σ := by
 obtain ⟨role, bb, h, hK⟩ := h
 have hs := hc.size
 have hne : ∀ b, b < w.heap.size → role b ≠ 0 → w'.heap[b]? = w.heap[b]? := fun b hb hr => hc.block b hb (fun hx => hr (hK b (hT b hb hx)).1)
 refine ⟨fun b => if w.heap.size ≤ b then 0 else role b, bb, ⟨?_, h.pl.keep (hne p h.pl.lt (by rw [h.rp]; omega)), h.bz.keep (fun b hb' => ?_), ?_, ?_, h.pb, fun a o ho => (h.op a o ho).keep (fun b hl hr => by rw [if_neg (by omega)]; exact hr) (fun b hl hr => hne b hl (by rw [hr]; omega))⟩, fun b hk => ?_⟩
 · refine (h.dv.chLess hc (X := fun b => w.heap.size ≤ b ∧ b < w'.heap.size) (fun b hb hf hx => ?_) (fun b hx => hx)).mono (fun b hf => ?_)
   · have := (hK b (hT b hb hx)).1
     rcases hf with hf | hf
     · omega
     · omega
   · by_cases hl : w.heap.size ≤ b
     · right
       have := hf.2
       omega
     · left
       rw [if_neg hl]
       exact hf.1.resolve_right hl
 · have : b = bb := by simpa [OwnB, eq_comm] using hb'
   rw [this]; exact hne bb (h.bz.lt (b := bb) (by simp [OwnB])) (by rw [h.rb]; omega)
 · rw [if_neg (by have := h.pl.lt; omega)]; exact h.rp
 · rw [if_neg (by have := h.bz.lt (b := bb) (by simp [OwnB]); omega)]; exact h.rb
 · rcases hk with hk | hk
   · obtain ⟨h1, h2⟩ := hK b hk
     exact ⟨by show (if _ then _ else role b) = 0; rw [if_neg (by omega)]; exact h1, by omega⟩
   · exact ⟨if_pos hk.1, hk.2⟩
/-- The run's own blocks that a beginning changes. -/
def ChN (B : RqB) (Am : Option Addr) (b : Nat) : Prop := b = B.al ∨ b = B.an ∨ b = B.bm ∨ OwnB Am b
/-- Roles behind a beginning. -/
def rolC (κ : Nat → Nat) (w w5 : World) (i gm a : Nat) (Am : Option Addr) : Nat → Nat := fun b => if b < w.heap.size then κ b else if b = gm then 2 * i + 5 else if b = a then 2 * i + 4 else if Am.map (·.block) = some b then 3 else if b < w5.heap.size then 1 else 0
section
variable {κ κ' : Nat → Nat} {p d q n lines P N T i s gm a c5 cA : Nat} {t : Nat → Nat} {B : RqB} {rl : Nat → List (Bool × Int × Int)} {A : Nat → Option Addr} {cp : Nat → Nat} {now : Nat → Option Nat} {ms : List QM} {gs oz : List Nat} {Am Am' A' : Option Addr} {cm : Nat} {bs : Nat → Option Nat} {w w1 w5 : World} {σ σ' : PwS} {m m' : QM} {c : Bool × Int × Int} {rest : List (Bool × Int × Int)}
theorem rolC_old {b : Nat} (h : b < w.heap.size) : rolC κ w w5 i gm a Am b = κ b := if_pos h
theorem getD_snoc {gs : List Nat} {x : Nat} {j : Nat} (h : j < gs.length) : (gs ++ [x]).getD j 0 = gs.getD j 0 := by
 rw [List.getD_eq_getElem?_getD, List.getElem?_append_left h, ← List.getD_eq_getElem?_getD]
theorem getD_last {gs : List Nat} {x : Nat} : (gs ++ [x]).getD gs.length 0 = x := by simp [List.getD_eq_getElem?_getD]
theorem snoc_cases {ms : List QM} {m mj : QM} {j : Nat} (h : (ms ++ [m])[j]? = some mj) : (j < ms.length ∧ ms[j]? = some mj) ∨ (j = ms.length ∧ mj = m) := by
 by_cases hj : j < ms.length
 · rw [List.getElem?_append_left hj] at h; exact .inl ⟨hj, h⟩
 · rw [List.getElem?_append_right (by omega)] at h
   have hl := (List.getElem?_eq_some_iff.1 h).1
   have : j = ms.length := by simp at hl; omega
   subst this
   simp at h
   exact .inr ⟨rfl, h.symm⟩
/-- Behind the beginning of a call. -/
theorem RqM.newc (h : RqM κ p d q n lines P t B rl A cp now ms gs oz Am cm bs w σ T) (hs : s < 3) (hov : ∀ (i : Nat) (m : QM), ms[i]? = some m → m.th = s → m.ph.over = true) (hnl : ∀ u i, now u = some i → i < ms.length)
 (g1 : w.heap.size ≤ gm) (g2 : w.heap.size ≤ a) (g3 : a ≠ gm) (g4 : CB w1 gm 39 (mqc (qm0 c.1 c.2.1 s) a)) (g5 : CB w1 a 106 (qocell0 q s c.1 (if c.1 then c.2.1 % 1099511627776 else 0))) (g6 : CB w1 q 93 (qcells d p 2048 lines (fun i => if i = s then some a else bs i))) (g7 : Ch (At q) w w1)
 (hC5 : Ch (ChN B Am) w1 w5) (hal : CB w5 B.al 22 #[if s = 0 then .slice A' rest.length cA else .slice (A 0) (rl 0).length (cp 0), if s = 1 then .slice A' rest.length cA else .slice (A 1) (rl 1).length (cp 1), if s = 2 then .slice A' rest.length cA else .slice (A 2) (rl 2).length (cp 2)])
 (han : CB w5 B.an 33 #[if s = 0 then mpV gm else nowV now gs 0, if s = 1 then mpV gm else nowV now gs 1, if s = 2 then mpV gm else nowV now gs 2]) (hbm : CB w5 B.bm 29 #[.slice Am' (ms.length + 1) c5]) (hSl : Sl 33 1 w5 Am' (ms.length + 1) c5 ((gs ++ [gm]).map mpV))
 (hW : ∀ b, OwnB Am' b → OwnB Am b ∨ w1.heap.size ≤ b) (hlv : LfV κ w A' rest.length cA rest) :
 RqM (rolC κ w w5 ms.length gm a Am') p d q n lines P t B (fun u => if u = s then rest else rl u) (fun u => if u = s then A' else A u) (fun u => if u = s then cA else cp u) (fun u => if u = s then some ms.length else now u) (ms ++ [qm0 c.1 c.2.1 s]) (gs ++ [gm]) (oz ++ [a]) Am' c5 (fun i => if i = s then some a else bs i) w5 σ T ∧ Ch (fun b => κ b = 2 ∨ κ b = 3) w w5 := by
 have hbk := h.bk
 have hkt := h.bk.kt
 have hs1 := g7.size
 have hgl1 := g4.lt
 have hal1 := g5.lt
 have hA3 : ∀ b, ChN B Am b → κ b = 3 := fun b hb => by
  rcases hb with rfl | rfl | rfl | hb
  · exact hbk.kc
  · exact hbk.ka
  · exact hbk.km
  · exact (hbk.am b hb).1
 have hAlt : ∀ b, ChN B Am b → b < w.heap.size := fun b hb => by
  rcases hb with rfl | rfl | rfl | hb
  · exact h.cc.lt
  · exact h.ca.lt
  · exact h.cm_.lt
  · exact h.sl.lt hb
 have hC : Ch (fun b => κ b = 2 ∨ κ b = 3) w w5 := (g7.mono (fun b hb _ => .inl (by rw [show b = q from hb]; exact h.qu.kq))).trans hC5 (fun b hb hl => .inr (hA3 b hb))
 have hsz := hC.size
 have hsz5 := hC5.size
 have old : ∀ {b : Nat}, b < w.heap.size → rolC κ w w5 ms.length gm a Am' b = κ b := fun hb => rolC_old hb
 have kk : ∀ {b : Nat} {ty : TypeId} {vs : Array Value}, CB w b ty vs → rolC κ w w5 ms.length gm a Am' b = κ b := fun hb => old hb.lt
 have keep : ∀ {b : Nat} {ty : TypeId} {vs : Array Value}, CB w b ty vs → κ b ≠ 2 → ¬ ChN B Am b → CB w5 b ty vs := fun {b ty vs} hb h1 h2 => (hb.keep (g7.block b hb.lt (fun hx => h1 (by rw [show b = q from hx]; exact h.qu.kq)))).keep (hC5.block b (Nat.lt_of_lt_of_le hb.lt hs1) h2)
 have keep1 : ∀ {b : Nat} {ty : TypeId} {vs : Array Value}, CB w1 b ty vs → ¬ ChN B Am b → CB w5 b ty vs := fun {b ty vs} hb h2 => hb.keep (hC5.block b hb.lt h2)
 have nq : ¬ ChN B Am q := fun hx => by have := hA3 q hx; have := h.qu.kq; omega
 have ngm : ¬ ChN B Am gm := fun hx => by have := hAlt gm hx; omega
 have na : ¬ ChN B Am a := fun hx => by have := hAlt a hx; omega
 have n1 : ∀ {b : Nat}, κ b = 1 → ¬ ChN B Am b := fun {b} hb hx => by have := hA3 b hx; omega
 have nt : ¬ ChN B Am B.bt := fun hx => by
  rcases hx with hx | hx | hx | hx
  · exact hbk.n5 hx
  · exact hbk.n4 hx
  · exact hbk.n1 hx.symm
  · exact (hbk.am _ hx).2.2.1 rfl
 have h00 : (0 : Nat) < w.heap.size := h.qu.tab.1
 have hrg : rolC κ w w5 ms.length gm a Am' gm = 2 * ms.length + 5 := by unfold rolC; rw [if_neg (by omega), if_pos rfl]
 have hra : rolC κ w w5 ms.length gm a Am' a = 2 * ms.length + 4 := by unfold rolC; rw [if_neg (by omega), if_neg g3, if_pos rfl]
 refine ⟨⟨⟨?_, keep1 g6 nq, by rw [kk h.qu.hq]; exact h.qu.kq, h.qu.tab.ch hC (fun hx => by have := h.qu.k0; omega), by rw [old h00]; exact h.qu.k0, h.qu.hn, h.qu.hP, h.qu.hn2⟩, fun j mj hj ho => ?_, fun th hall => ?_, fun j mj hj => ?_, by simp [h.lg], by simp [h.la], keep h.cn (by have := hbk.kn; omega) (n1 hbk.kn), keep h.cl (by have := hbk.kl; omega) (n1 hbk.kl), keep h.cq (by have := hbk.kq; omega) (n1 hbk.kq), ?_, keep h.ct (by omega) nt, ?_, ?_, ?_, ?_, fun u hu => ?_⟩, hC⟩
 · refine (h.qu.pm.chQ hC (fun b _ hb => by omega)).less (fun b hb => ?_)
   by_cases hl : b < w.heap.size
   · left; rw [old hl] at hb; exact hb
   · right
     refine ⟨by omega, ?_⟩
     unfold rolC at hb
     rw [if_neg hl] at hb
     split at hb
     · rename_i hx; rw [hx]; omega
     · split at hb
       · rename_i hx; rw [hx]; omega
       · split at hb
         · rename_i hx; exact hSl.lt hx
         · split at hb
           · assumption
           · omega
 · rcases snoc_cases hj with ⟨hl, e⟩ | ⟨hl, e⟩
   · have hne : mj.th ≠ s := fun hx => by rw [hov j mj e hx] at ho; cases ho
     rw [getD_snoc (by rw [h.la]; exact hl)]
     exact (if_neg hne).trans (h.bi j mj e ho)
   · rw [hl, ← h.la, getD_last, e]
     exact if_pos rfl
 · have hne : th ≠ s := fun hx => (hall ms.length (qm0 c.1 c.2.1 s) (by simp) rfl) (by show s = th; exact hx.symm)
   exact (if_neg hne).trans (h.bo th (fun j mj hj ho => hall j mj (by rw [List.getElem?_append_left (mem_ms_lt hj)]; exact hj) ho))
 · rcases snoc_cases hj with ⟨hl, e⟩ | ⟨hl, e⟩
   · rw [getD_snoc (by rw [h.lg]; exact hl), getD_snoc (by rw [h.la]; exact hl)]
     exact (h.mm j mj e).ch hC (fun b _ hb => by omega) (fun b hb => old hb)
   · subst e
     subst hl
     have e1 : (gs ++ [gm]).getD ms.length 0 = gm := by rw [← h.lg]; exact getD_last
     have e2 : (oz ++ [a]).getD ms.length 0 = a := by rw [← h.la]; exact getD_last
     rw [e1, e2]
     exact ⟨hrg, keep1 g4 ngm, hra, keep1 g5 na⟩
 · rw [List.length_append]; exact hbm
 · have key : ∀ u, (if s = u then mpV gm else nowV now gs u) = nowV (fun v => if v = s then some ms.length else now v) (gs ++ [gm]) u := fun u => by
    unfold nowV
    by_cases hu : s = u
    · subst hu
      simp only [if_true, Option.map_some, ← h.lg, getD_last]
      rfl
    · rw [if_neg hu]
      simp only [if_neg (Ne.symm hu)]
      cases hn : now u with
      | none => rfl
      | some i => simp only [Option.map_some]; rw [getD_snoc (by rw [h.lg]; exact hnl u i hn)]
   rw [key 0, key 1, key 2] at han
   exact han
 · have key : ∀ u, (if s = u then Value.slice A' rest.length cA else .slice (A u) (rl u).length (cp u)) = .slice (if u = s then A' else A u) (if u = s then rest else rl u).length (if u = s then cA else cp u) := fun u => by
    by_cases hu : s = u
    · subst hu; simp
    · rw [if_neg hu, if_neg (Ne.symm hu), if_neg (Ne.symm hu), if_neg (Ne.symm hu)]
   rw [key 0, key 1, key 2] at hal
   exact hal
 · rw [List.length_append]; exact hSl
 · refine ⟨by rw [kk h.cn]; exact hbk.kn, by rw [kk h.cl]; exact hbk.kl, by rw [kk h.cq]; exact hbk.kq, by rw [kk h.cm_]; exact hbk.km, by rw [kk h.ct]; exact hbk.kt, by rw [kk h.ca]; exact hbk.ka, by rw [kk h.cc]; exact hbk.kc, hbk.n1, hbk.n2, hbk.n3, hbk.n4, hbk.n5, hbk.n6, fun b hb => ?_⟩
   rcases hW b hb with hb' | hb'
   · obtain ⟨e1, e2⟩ := hbk.am b hb'
     exact ⟨by rw [old (h.sl.lt hb')]; exact e1, e2⟩
   · have hbg : b ≠ gm := by omega
     have hba : b ≠ a := by omega
     refine ⟨?_, by have := h.cm_.lt; omega, by have := h.ct.lt; omega, by have := h.ca.lt; omega, by have := h.cc.lt; omega⟩
     unfold rolC
     rw [if_neg (by omega), if_neg hbg, if_neg hba]
     exact if_pos hb
 · have hkp : ∀ b, b < w.heap.size → κ b = 1 → w5.heap[b]? = w.heap[b]? ∧ rolC κ w w5 ms.length gm a Am' b = 1 := fun b hb hb1 => ⟨hC.block b hb (fun hx => by omega), by rw [old hb]; exact hb1⟩
   by_cases hu' : u = s
   · simp only [if_pos hu']
     exact hlv.keep hsz hkp
   · simp only [if_neg hu']
     exact (h.lv u hu).keep hsz hkp
end
def tt : Nat → Bool := fun _ => true
/-- What is left to do in a run. -/
def muR (P : Nat) (σ : PwS) (L : Nat → Int) (ms : List QM) (rl : Nat → List (Bool × Int × Int)) : Nat := phi tt tt 256 P σ L ms + 4559 * ((rl 0).length + (rl 1).length + (rl 2).length)
/-- The constants of a run. -/
structure RqK where
 κ0 : Nat → Nat
 w0 : World
 p : Nat
 d : Nat
 q : Nat
 n : Nat
 lines : Nat
 P : Nat
 t : Nat → Nat
 q0 : List Int
 cs : List (Bool × Int × Nat)
 Bd : Nat
 B : RqB
/-- A run: where its threads are. -/
structure RqS (k : RqK) (rl : Nat → List (Bool × Int × Int)) (now : Nat → Option Nat) (ms : List QM) (gs : List Nat) (T mu : Nat) (w : World) (κ : Nat → Nat) (A : Nat → Option Addr) (cp : Nat → Nat) (oz : List Nat) (Am : Option Addr) (cm : Nat) (bs : Nat → Option Nat) (σ : PwS) (xs : List Int) (L : Nat → Int) (ord : List Nat) (N : Nat) : Prop where
 mem : RqM κ k.p k.d k.q k.n k.lines k.P k.t k.B rl A cp now ms gs oz Am cm bs w σ T
 qw : QW sumI (atW 0) k.n 256 k.P k.q0 σ ms N T xs L ord
 rn : QRn k.cs (fun s => (rl s).map mkC) now ms
 me : muR k.P σ L ms rl ≤ mu
 bd : N + mu ≤ k.Bd
 old : ∀ b, b < k.w0.heap.size → κ b = k.κ0 b
 ch : Ch (fun b => k.κ0 b = 0 ∨ k.κ0 b = 2) k.w0 w
 rv : ∀ s, ∀ c ∈ rl s, 0 ≤ c.2.1 ∧ c.2.1 < 18446744073709551616
 seven : ms.length + ((rl 0).length + (rl 1).length + (rl 2).length) ≤ 7
 k012 : ∀ b, b < k.w0.heap.size → k.κ0 b ≤ 2
 bdl : k.Bd < 1000000
 p24 : k.P < 1000000
 tb : T + mu ≤ k.Bd
def RqX (k : RqK) (rl : Nat → List (Bool × Int × Int)) (now : Nat → Option Nat) (ms : List QM) (gs : List Nat) (T mu : Nat) (w : World) : Prop := ∃ κ A cp oz Am cm bs σ xs L ord N, RqS k rl now ms gs T mu w κ A cp oz Am cm bs σ xs L ord N
section
variable {k : RqK} {rl : Nat → List (Bool × Int × Int)} {now : Nat → Option Nat} {ms : List QM} {gs : List Nat} {T mu : Nat} {w w' : World} {κ : Nat → Nat} {A : Nat → Option Addr} {cp : Nat → Nat} {oz : List Nat} {Am : Option Addr} {cm : Nat} {bs : Nat → Option Nat} {σ : PwS} {xs : List Int} {L : Nat → Int} {ord : List Nat} {N s i : Nat} {m : QM}
theorem QRn.lt (h : QRn k.cs (fun s => (rl s).map mkC) now ms) : ∀ u i, now u = some i → i < ms.length := fun u i hu => by
 obtain ⟨m, h1, _⟩ := h.nw u i hu
 exact mem_ms_lt h1
/-- The calls of a thread that is not over are its last. -/
theorem QRn.uniq (h : QRn k.cs (fun s => (rl s).map mkC) now ms) (hi : ms[i]? = some m) (hov : m.ph.over = false) : now m.th = some i ∧ ∀ (j : Nat) (mj : QM), ms[j]? = some mj → mj.ph.over = false → mj.th = m.th → j = i := by
 obtain ⟨a, a1, a2, a3⟩ := h.lst i m hi
 have e : i = a := by
  by_cases hx : i = a
  · exact hx
  · have := a3 hx; rw [hov] at this; cases this
 subst e
 refine ⟨a1, fun j mj hj ho ht => ?_⟩
 obtain ⟨b, b1, b2, b3⟩ := h.lst j mj hj
 rw [ht, a1] at b1
 injection b1 with b1
 by_cases hx : j = i
 · exact hx
 · have := b3 (by omega); rw [ho] at this; cases this
/-- A step of a machine that is not over. -/
theorem RqS.step (h : RqS k rl now ms gs T mu w κ A cp oz Am cm bs σ xs L ord N) (hi : ms[i]? = some m) (hov : m.ph.over = false) :
 Calls Tryz.prog 30 #[.pointer (some ⟨gs.getD i 0, 0, none⟩), .int .i64 (T : Int)] w fun e w' => e = .returned (.tuple #[]) ∧ 1 ≤ mu ∧ ∃ m' κ', m'.ins = m.ins ∧ m'.val = m.val ∧ m'.th = m.th ∧ (m.ph.fresh = false → m'.bg = m.bg) ∧ (m.ph.fresh = true → m'.bg = T) ∧ m'.ph.fresh = false ∧ ∃ bs' σ' xs' L' ord',
  RqM κ' k.p k.d k.q k.n k.lines k.P k.t k.B rl A cp now (ms.set i m') gs oz Am cm bs' w' σ' T ∧ QW sumI (atW 0) k.n 256 k.P k.q0 σ' (ms.set i m') (N + 1) (T + 1) xs' L' ord' ∧ muR k.P σ' L' (ms.set i m') rl ≤ mu - 1 ∧ (∀ b, b < w.heap.size → κ' b = κ b) ∧ Ch (fun b => κ b ≠ 1) w w' := by
 have hN : N < 1000000 := by have := h.bd; have := h.bdl; omega
 obtain ⟨hu1, hu2⟩ := h.rn.uniq hi hov
 refine (mqStep h.mem.qu h.qw hN hi (h.mem.mm i m hi) (h.mem.bi i m hi hov) hov).mono ?_
 rintro e w' ⟨bl, b1, b2, rfl, κ', c1, c2, c3, c4, c5⟩
 obtain ⟨xs', L', ord', d1, d2⟩ := h.qw.step (reg30 (by have := h.mem.qu.hn2; omega)) hN (by have := h.mem.qu.hn2; omega) h.p24 hi hov b1 b2
 obtain ⟨_, d3⟩ := d2 tt tt rfl rfl (fun _ _ _ _ _ _ => rfl)
 have hmu := h.me
 unfold muR at hmu
 refine ⟨rfl, by omega, m.next T (qStep sumI (atW 0) 256 k.P σ m bl).2, κ', rfl, rfl, rfl, fun hf => ?_, fun hf => ?_, (qStep_ph hov).1, bsA (m.next T (qStep sumI (atW 0) 256 k.P σ m bl).2) bs, _, xs', L', ord', ?_, d1, ?_, c1, c5.mono (fun b hb _ => by omega)⟩
 · show (if m.ph.fresh then T else m.bg) = m.bg
   rw [hf]; rfl
 · show (if m.ph.fresh then T else m.bg) = T
   rw [hf]; rfl
 · exact h.mem.stepped hi hov rfl hu2 c1 c2 c3 c4 c5
 · unfold muR; omega
/-- Behind a step of a machine, once the time has gone on. -/
theorem RqS.stepT (h : RqS k rl now ms gs T mu w κ A cp oz Am cm bs σ xs L ord N) (hi : ms[i]? = some m) (hov : m.ph.over = false) (hfr : m.ph.fresh = false) :
 Calls Tryz.prog 30 #[.pointer (some ⟨gs.getD i 0, 0, none⟩), .int .i64 (T : Int)] w fun e w' => e = .returned (.tuple #[]) ∧ w'.cell? ⟨k.B.bt, 0, none⟩ = some (.int .i64 (T : Int)) ∧ w'.frozen? ⟨k.B.bt, 0, none⟩ = false ∧ k.B.bt < w'.heap.size ∧ 1 ≤ mu ∧ ∃ ms', RqX k rl now ms' gs (T + 1) (mu - 1) (w'.setCell ⟨k.B.bt, 0, none⟩ (.int .i64 ((T + 1 : Nat) : Int))) := by
 refine (h.step hi hov).mono ?_
 rintro e w' ⟨rfl, h1, m', κ', e1, e2, e3, e4, _, e6, bs', σ', xs', L', ord', f1, f2, f3, f4, f5⟩
 refine ⟨rfl, f1.ct.cell 0, f1.ct.frozen 0, f1.ct.lt, h1, ms.set i m', κ', A, cp, oz, Am, cm, bs', σ', xs', L', ord', N + 1, f1.tick, f2, h.rn.again hi hov e1 e2 e3 (e4 hfr) e6, f3, by have := h.bd; omega, fun b hb => (f4 b (Nat.lt_of_lt_of_le hb h.ch.size)).trans (h.old b hb), ?_, h.rv, by rw [List.length_set]; exact h.seven, h.k012, h.bdl, h.p24, by have := h.tb; omega⟩
 refine (h.ch.trans f5 (fun b hb hl => ?_)).trans ((Ch.refl (At k.B.bt) w').set1 _ _) (fun b hb hl => ?_)
 · have := h.old b hl
   have := h.k012 b hl
   omega
 · have h2 := f1.bk.kt
   have h3 : b = k.B.bt := hb
   rw [← h3, f4 b (Nat.lt_of_lt_of_le hl h.ch.size), h.old b hl] at h2
   have := h.k012 b hl
   omega
/-- Behind the beginning and the first step of a call. -/
theorem RqS.newT {A' : Nat → Option Addr} {cp' : Nat → Nat} {Am' : Option Addr} {cm' : Nat} {bs' : Nat → Option Nat} {w5 : World} {κ5 : Nat → Nat} {c : Bool × Int × Int} {rest : List (Bool × Int × Int)} {gm a : Nat} (h : RqS k rl now ms gs T mu w κ A cp oz Am cm bs σ xs L ord N) (hs : s < 3) (hrl : rl s = c :: rest) (hd : ∀ i m, now s = some i → ms[i]? = some m → m.ph.over = true)
 (hM : RqM κ5 k.p k.d k.q k.n k.lines k.P k.t k.B (fun u => if u = s then rest else rl u) A' cp' (fun u => if u = s then some ms.length else now u) (ms ++ [qm0 c.1 c.2.1 s]) (gs ++ [gm]) (oz ++ [a]) Am' cm' bs' w5 σ T) (hk : ∀ b, b < w.heap.size → κ5 b = κ b) (hC : Ch (fun b => κ b = 2 ∨ κ b = 3) w w5) :
 Calls Tryz.prog 30 #[.pointer (some ⟨gm, 0, none⟩), .int .i64 (T : Int)] w5 fun e w' => e = .returned (.tuple #[]) ∧ w'.cell? ⟨k.B.bt, 0, none⟩ = some (.int .i64 (T : Int)) ∧ w'.frozen? ⟨k.B.bt, 0, none⟩ = false ∧ k.B.bt < w'.heap.size ∧ 1 ≤ mu ∧ ∃ rl' now' ms', RqX k rl' now' ms' (gs ++ [gm]) (T + 1) (mu - 1) (w'.setCell ⟨k.B.bt, 0, none⟩ (.int .i64 ((T + 1 : Nat) : Int))) := by
 have hN : N < 1000000 := by have := h.bd; have := h.bdl; omega
 have hov : ∀ (j : Nat) (mj : QM), ms[j]? = some mj → mj.th = s → mj.ph.over = true := fun j mj hj he => by
  obtain ⟨b, b1, b2, b3⟩ := h.rn.lst j mj hj
  by_cases hjb : j = b
  · rw [he] at b1
    exact hd j mj (by rw [hjb]; exact b1) hj
  · exact b3 hjb
 have hW := h.qw.add (m := qm0 c.1 c.2.1 s) rfl ⟨by show 0 ≤ c.2.1 % 1099511627776; omega, by show c.2.1 % 1099511627776 < _; omega⟩ (by show s = 0 ∨ s = 1 ∨ s = 2 ∨ s = 5; omega) (fun j mj hj ho he => by rw [hov j mj hj he] at ho; cases ho)
 have hi : (ms ++ [qm0 c.1 c.2.1 s])[ms.length]? = some (qm0 c.1 c.2.1 s) := by simp
 have hgm : (gs ++ [gm]).getD ms.length 0 = gm := by rw [← h.mem.lg]; exact getD_last
 have hozz : (oz ++ [a]).getD ms.length 0 = a := by rw [← h.mem.la]; exact getD_last
 have hst := mqStep hM.qu hW hN hi (hM.mm _ _ hi) (hM.bi _ _ hi rfl) rfl
 rw [hgm] at hst
 refine hst.mono ?_
 rintro e w' ⟨bl, b1, b2, rfl, κ', c1, c2, c3, c4, c5⟩
 obtain ⟨xs', L', ord', d1, d2⟩ := hW.step (reg30 (by have := hM.qu.hn2; omega)) hN (by have := hM.qu.hn2; omega) h.p24 hi rfl b1 b2
 obtain ⟨_, d3⟩ := d2 tt tt rfl rfl (fun _ _ _ _ _ _ => rfl)
 have hadd := phi_add (st := tt) (lv := tt) (W := 256) (P := k.P) (σ := σ) (L := L) (ms := ms) (m := qm0 c.1 c.2.1 s) rfl
 have hmu := h.me
 unfold muR at hmu
 have hone : ∀ (j : Nat) (mj : QM), (ms ++ [qm0 c.1 c.2.1 s])[j]? = some mj → mj.ph.over = false → mj.th = (qm0 c.1 c.2.1 s).th → j = ms.length := fun j mj hj ho he => by
  rcases snoc_cases hj with ⟨hl, e⟩ | ⟨hl, e⟩
  · rw [hov j mj e he] at ho; cases ho
  · exact hl
 have f1 := hM.stepped (m' := (qm0 c.1 c.2.1 s).next T (qStep sumI (atW 0) 256 k.P σ (qm0 c.1 c.2.1 s) bl).2) hi rfl rfl hone c1 c2 (by rw [hgm]; exact c3) c4 c5
 have hlen : (rl 0).length + (rl 1).length + (rl 2).length = ((if (0 : Nat) = s then rest else rl 0).length + (if (1 : Nat) = s then rest else rl 1).length + (if (2 : Nat) = s then rest else rl 2).length) + 1 := by
  rcases (by omega : s = 0 ∨ s = 1 ∨ s = 2) with rfl | rfl | rfl <;> (simp [hrl]; try omega)
 have htt : (if tt ms.length then 911 else 0) + (if tt ms.length then 3648 else 0) = 4559 := rfl
 rw [htt] at hadd
 have hset : (ms ++ [qm0 c.1 c.2.1 s]).set ms.length ((qm0 c.1 c.2.1 s).next T (qStep sumI (atW 0) 256 k.P σ (qm0 c.1 c.2.1 s) bl).2) = ms ++ [(qm0 c.1 c.2.1 s).next T (qStep sumI (atW 0) 256 k.P σ (qm0 c.1 c.2.1 s) bl).2] := by
  rw [List.set_append_right _ _ (Nat.le_refl _)]; simp
 rw [hset] at d1 d3 f1
 refine ⟨rfl, f1.ct.cell 0, f1.ct.frozen 0, f1.ct.lt, by omega, _, _, _, κ', A', cp', oz ++ [a], Am', cm', _, _, xs', L', ord', N + 1, f1.tick, d1, ?_, ?_, by have := h.bd; omega, fun b hb => ?_, ?_, fun u cc hcc => ?_, ?_, h.k012, h.bdl, h.p24, by have := h.tb; omega⟩
 · have := h.rn.new (t := s) (c := mkC c) (rest := rest.map mkC) (m' := (qm0 c.1 c.2.1 s).next T (qStep sumI (atW 0) 256 k.P σ (qm0 c.1 c.2.1 s) bl).2) hs (by show (rl s).map mkC = _; rw [hrl]; rfl) hd rfl rfl rfl (qStep_ph rfl).1 (fun j mj hj ho => ((h.qw.ls.tm j mj hj).2 ho))
   have e : (fun u => if u = s then rest.map mkC else (rl u).map mkC) = fun u => ((fun u => if u = s then rest else rl u) u).map mkC := by
    funext u
    by_cases hu : u = s
    · simp [hu]
    · simp [hu]
   rw [e] at this
   exact this
 · unfold muR
   show _ + 4559 * ((if (0 : Nat) = s then rest else rl 0).length + (if (1 : Nat) = s then rest else rl 1).length + (if (2 : Nat) = s then rest else rl 2).length) ≤ mu - 1
   omega
 · have hl := Nat.lt_of_lt_of_le hb h.ch.size
   rw [c1 b (Nat.lt_of_lt_of_le hl hC.size), hk b hl]
   exact h.old b hb
 · refine ((h.ch.trans hC (fun b hb hl => ?_)).trans c5 (fun b hb hl => ?_)).trans ((Ch.refl (At k.B.bt) w').set1 _ _) (fun b hb hl => ?_)
   · have := h.old b hl; have := h.k012 b hl; omega
   · have := h.old b hl; have := h.k012 b hl; have := hk b (Nat.lt_of_lt_of_le hl h.ch.size); omega
   · have h2 := hM.bk.kt
     rw [← show b = k.B.bt from hb, hk b (Nat.lt_of_lt_of_le hl h.ch.size)] at h2
     have := h.old b hl; have := h.k012 b hl; omega
 · by_cases hu : u = s
   · simp only [if_pos hu] at hcc
     exact h.rv s cc (by rw [hrl]; exact List.mem_cons_of_mem _ hcc)
   · simp only [if_neg hu] at hcc
     exact h.rv u cc hcc
 · have := h.seven
   rw [List.length_append]
   show _ + 1 + ((if (0 : Nat) = s then rest else rl 0).length + (if (1 : Nat) = s then rest else rl 1).length + (if (2 : Nat) = s then rest else rl 2).length) ≤ 7
   omega
end
section
variable {k : RqK} {rl : Nat → List (Bool × Int × Int)} {now : Nat → Option Nat} {ms : List QM} {gs : List Nat} {T mu : Nat} {w w' : World} {κ : Nat → Nat} {A : Nat → Option Addr} {cp : Nat → Nat} {oz : List Nat} {Am : Option Addr} {cm : Nat} {bs : Nat → Option Nat} {σ : PwS} {xs : List Int} {L : Nat → Int} {ord : List Nat} {N s i : Nat} {m : QM}
theorem RqM.bl {p d q n lines P : Nat} {t : Nat → Nat} {B : RqB} (m : RqM κ p d q n lines P t B rl A cp now ms gs oz Am cm bs w σ T) (hB : Below w.heap.size w w') : RqM κ p d q n lines P t B rl A cp now ms gs oz Am cm bs w' σ T := by
 have hC : Ch (fun _ => False) w w' := Ch.of_below hB
 exact ⟨⟨m.qu.pm.bl0 hB, m.qu.hq.below hB, m.qu.kq, m.qu.tab.ch hC (fun hx => hx), m.qu.k0, m.qu.hn, m.qu.hP, m.qu.hn2⟩, m.bi, m.bo, fun j mj hj => (m.mm j mj hj).ch hC (fun _ _ hx => hx.elim) (fun _ _ => rfl), m.lg, m.la, m.cn.below hB, m.cl.below hB, m.cq.below hB, m.cm_.below hB, m.ct.below hB, m.ca.below hB, m.cc.below hB, m.sl.keep (fun b hb => hB.block b (m.sl.lt hb)), m.bk, fun s hs => (m.lv s hs).keep hB.size (fun b hb hb1 => ⟨hB.block b hb, hb1⟩)⟩
theorem RqS.bl (h : RqS k rl now ms gs T mu w κ A cp oz Am cm bs σ xs L ord N) (hB : Below w.heap.size w w') : RqS k rl now ms gs T mu w' κ A cp oz Am cm bs σ xs L ord N :=
 ⟨h.mem.bl hB, h.qw, h.rn, h.me, h.bd, h.old, h.ch.trans (Ch.of_below (S := fun _ => False) hB) (fun _ hx _ => hx.elim), h.rv, h.seven, h.k012, h.bdl, h.p24, h.tb⟩
/-- What the closure leaves. -/
def RaP (k : RqK) (rl : Nat → List (Bool × Int × Int)) (now : Nat → Option Nat) (ms : List QM) (gs : List Nat) (T mu s : Nat) (e : Ending) (w' : World) : Prop :=
 e = .returned (.bool true) ∧ ((rl s = [] ∧ (∀ i m, now s = some i → ms[i]? = some m → m.ph.over = true) ∧ RqX k rl now ms gs T mu w') ∨ (1 ≤ mu ∧ ∃ rl' now' ms' gs', RqX k rl' now' ms' gs' (T + 1) (mu - 1) w'))
theorem nowV_some {i : Nat} (h : now s = some i) : nowV now gs s = .pointer (some ⟨gs.getD i 0, 0, none⟩) := by unfold nowV; rw [h]; rfl
theorem nowV_none (h : now s = none) : nowV now gs s = .pointer none := by unfold nowV; rw [h]; rfl
theorem CB.now3 {a b c : Value} {g : Nat} {ty : TypeId} {f : Nat → Value} (h : CB w g ty #[f 0, f 1, f 2]) (hs : s < 3) : w.cell? ⟨g, s, none⟩ = some (f s) := by
 rcases (by omega : s = 0 ∨ s = 1 ∨ s = 2) with rfl | rfl | rfl
 · exact h.cell 0
 · exact h.cell 1
 · exact h.cell 2
set_option maxRecDepth 100000 in
set_option maxHeartbeats 4000000 in
theorem runA_go (h : RqS k rl now ms gs T mu w κ A cp oz Am cm bs σ xs L ord N) (hs : s < 3) (hnow : now s = some i) (hi : ms[i]? = some m) (hov : m.ph.over = false) :
 Calls Tryz.prog 38 #[.int .i64 (s : Int), .pointer (some ⟨k.B.bn, 0, none⟩), .pointer (some ⟨k.B.bl, 0, none⟩), .pointer (some ⟨k.B.bq, 0, none⟩), .pointer (some ⟨k.B.bm, 0, none⟩), .pointer (some ⟨k.B.bt, 0, none⟩)] w (RaP k rl now ms gs T mu s) := by
 have hfr := (h.rn.thr i m hi).2
 have hth : m.th = s := by
  obtain ⟨m2, e1, e2⟩ := h.rn.nw s i hnow
  rw [hi] at e1
  injection e1 with e1
  rw [e1]; exact e2
 have c1 : w.cell? ⟨k.B.bn, 0, none⟩ = some (.slice (some ⟨k.B.an, 0, none⟩) 3 3) := h.mem.cn.cell 0
 have hn := CB.now3 (s := s) (f := nowV now gs) (a := .pointer none) (b := .pointer none) (c := .pointer none) h.mem.ca hs
 rw [nowV_some hnow] at hn
 have c9 : w.cell? ⟨gs.getD i 0, 9, none⟩ = some (.bool false) := by
  have := (h.mem.mm i m hi).cb.cell 9
  rw [this]
  show some (Value.bool m.ph.over) = _
  rw [hov]
 have ct : w.cell? ⟨k.B.bt, 0, none⟩ = some (.int .i64 (T : Int)) := h.mem.ct.cell 0
 have l1 := h.mem.cn.lt
 have l2 := h.mem.ca.lt
 have l3 := (h.mem.mm i m hi).cb.lt
 have l4 := h.mem.ct.lt
 have HST := Lib.hid (fun (W : World) (hW : Below w.heap.size w W) => (h.bl hW).stepT hi hov hfr)
 have hs3 : (s : Int) < 3 := by omega
 have hs0 : (0 : Int) ≤ (s : Int) := by omega
 have hT : T < 1000000 := by have := h.tb; have := h.bdl; omega
 have e1 : IntKind.i64.wrap ((T : Int) + 1) = ((T + 1 : Nat) : Int) := by rw [IntWalk.i64_in _ (by omega)]; omega
 obtain ⟨gm, hgm⟩ : ∃ gm, gs.getD i 0 = gm := ⟨_, rfl⟩
 rw [hgm] at hn c9 l3 HST
 obtain ⟨T1, hT1⟩ : ∃ T1, T + 1 = T1 := ⟨_, rfl⟩
 rw [hT1] at HST e1
 unfold RaP
 rw [hT1]
 generalize k.B.bn = bn at *
 generalize k.B.an = an at *
 generalize hbt : k.B.bt = bt at *
 generalize k.B.bl = bl at *
 generalize k.B.bm = bm at *
 generalize k.B.bq = bq at *
 clear h hnow hi hov hfr hth hs hT hT1 hgm hbt
 go_enter Tryz.func38, Tryz.ntmps38
 go_upto_region 12 with (fail)
 refine ord_reads [0, 1, 2, 3, 4] [.h [5]] (by kernel_rfl) (fun _ _ d _ _ h => by cases d <;> exact h) (by kernel_rfl) ?_
 dsimp only [pick, List.filterMap, List.getElem?_cons_zero, List.getElem?_cons_succ]
 (repeat (go_big_quiet_step (fail))); refine wpQuiet_nil ?_
 rintro _ ⟨nq, rfl⟩
 with_reducible refine part_hard ?_
 dsimp only [pick, List.filterMap, List.getElem?_cons_zero, List.getElem?_cons_succ]
 go_wp2_with (go_at_call 30; (with_reducible refine (HST.out _ (by (repeat (first | with_reducible (first | exact Below.refl _ _ | refine bl_alloc ?_ _ | refine bl_drew ?_ | refine bl_drewN ?_ _ | refine bl_bx ?_ _ | exact BX.below _ | refine bl_set ?_ (by first | (exact Nat.le_refl _) | (simp; done) | (simp; omega)) _) | assumption)))).mono ?_); rintro e w2 ⟨rfl, z1, z2, z3, z4, ms', hx⟩; have HX := Lib.hid hx; have HMU := Lib.hid z4; clear hx z4)
 with_reducible refine segs_end ?_
 with_reducible refine part_nil ?_
 go_wp2
 exact bodyPost_ret (v := .bool true) (by simp [results, Tryz.results38, go_sem]) rfl ⟨rfl, .inr ⟨HMU.out, rl, now, ms', gs, HX.out⟩⟩
set_option maxRecDepth 100000 in
set_option maxHeartbeats 4000000 in
theorem runA_idle (h : RqS k rl now ms gs T mu w κ A cp oz Am cm bs σ xs L ord N) (hs : s < 3) (hd : ∀ i m, now s = some i → ms[i]? = some m → m.ph.over = true) (hrl : rl s = []) :
 Calls Tryz.prog 38 #[.int .i64 (s : Int), .pointer (some ⟨k.B.bn, 0, none⟩), .pointer (some ⟨k.B.bl, 0, none⟩), .pointer (some ⟨k.B.bq, 0, none⟩), .pointer (some ⟨k.B.bm, 0, none⟩), .pointer (some ⟨k.B.bt, 0, none⟩)] w (RaP k rl now ms gs T mu s) := by
 have HX : Hid (RqX k rl now ms gs T mu w) := ⟨κ, A, cp, oz, Am, cm, bs, σ, xs, L, ord, N, h⟩
 have c1 : w.cell? ⟨k.B.bn, 0, none⟩ = some (.slice (some ⟨k.B.an, 0, none⟩) 3 3) := h.mem.cn.cell 0
 have c2 : w.cell? ⟨k.B.bl, 0, none⟩ = some (.slice (some ⟨k.B.al, 0, none⟩) 3 3) := h.mem.cl.cell 0
 have hn := CB.now3 (s := s) (f := nowV now gs) (a := .pointer none) (b := .pointer none) (c := .pointer none) h.mem.ca hs
 have hc := CB.now3 (s := s) (f := fun s => .slice (A s) (rl s).length (cp s)) (a := .pointer none) (b := .pointer none) (c := .pointer none) h.mem.cc hs
 simp only [hrl, List.length_nil] at hc
 have l1 := h.mem.cn.lt
 have l2 := h.mem.ca.lt
 have l3 := h.mem.cl.lt
 have l4 := h.mem.cc.lt
 have hs3 : (s : Int) < 3 := by omega
 have hs0 : (0 : Int) ≤ (s : Int) := by omega
 have HFIN : Hid (RaP k rl now ms gs T mu s (.returned (.bool true)) w) := ⟨rfl, .inl ⟨hrl, hd, HX.out⟩⟩
 have hcase : nowV now gs s = .pointer none ∨ ∃ gm, nowV now gs s = .pointer (some ⟨gm, 0, none⟩) ∧ w.cell? ⟨gm, 9, none⟩ = some (.bool true) ∧ gm < w.heap.size := by
  cases hns : now s with
  | none => exact .inl (nowV_none hns)
  | some i =>
    obtain ⟨m, e1, e2⟩ := h.rn.nw s i hns
    have hm := h.mem.mm i m e1
    refine .inr ⟨_, nowV_some hns, ?_, hm.cb.lt⟩
    have := hm.cb.cell 9
    rw [this]
    show some (Value.bool m.ph.over) = _
    rw [hd i m hns e1]
 generalize k.B.bn = bn at *
 generalize k.B.an = an at *
 generalize k.B.al = al at *
 generalize k.B.bt = bt at *
 generalize k.B.bl = bl at *
 generalize k.B.bm = bm at *
 generalize k.B.bq = bq at *
 clear h hd hrl HX hs
 rcases hcase with hx | ⟨gm, hx, z9, zl⟩
 · rw [hx] at hn
   clear hx
   go_enter Tryz.func38, Tryz.ntmps38
   go_wp2
   exact bodyPost_ret (v := .bool true) (by simp [results, Tryz.results38, go_sem]) rfl HFIN.out
 · rw [hx] at hn
   clear hx
   go_enter Tryz.func38, Tryz.ntmps38
   go_wp2
   exact bodyPost_ret (v := .bool true) (by simp [results, Tryz.results38, go_sem]) rfl HFIN.out
end
end Go.Proofs.YtaefkelaffijbaaGreatDoor
