/- A run (merged). -/
import Derived.Test.YtaefkelaffijbaaGreatDoorKfo
import Derived.Deep.CutBlock
import Derived.Deep.RegionHeld3
namespace Go.Proofs.YtaefkelaffijbaaGreatDoor
open Go.RowKit
set_option linter.unusedVariables false
set_option linter.unusedSimpArgs false
/-- The blocks that run makes. -/
def rB (n bt : Nat) : RqB := ⟨n + 3, n + 5, n, n + 1, bt, n + 2, n + 4⟩
/-- What run leaves. -/
def RunP30 (κ0 : Nat → Nat) (p d q n lines P : Nat) (t : Nat → Nat) (q0 : List Int) (cs : List (Bool × Int × Int)) (Bd : Nat) (w : World) (fin : Bool) (e : Ending) (w' : World) : Prop :=
 ∃ (bt : Nat) (rl : Nat → List (Bool × Int × Int)) (now : Nat → Option Nat) (ms : List QM) (gs : List Nat) (T mu : Nat) (κ : Nat → Nat) (A : Nat → Option Addr) (cp : Nat → Nat) (oz : List Nat) (Am : Option Addr) (cm : Nat) (bs : Nat → Option Nat) (σ : PwS) (xs : List Int) (L : Nat → Int) (ord : List Nat) (N : Nat),
  e = .returned (.tuple #[.slice Am ms.length cm, .bool true]) ∧ RqS ⟨κ0, w, p, d, q, n, lines, P, t, q0, csOf (cs.take 7), Bd, rB w.heap.size bt⟩ rl now ms gs T mu w' κ A cp oz Am cm bs σ xs L ord N ∧ (fin = true → ∀ s, s < 3 → rl s = [] ∧ ∀ i m, now s = some i → ms[i]? = some m → m.ph.over = true) ∧ (fin = false → T ≤ 400)
theorem alloc6 (w : World) (c1 c2 c3 c4 c5 c6 : Array Value) (t1 t2 t3 t4 t5 t6 : TypeId) : CB ((((((w.alloc (.cells c1 t1)).alloc (.cells c2 t2)).alloc (.cells c3 t3)).alloc (.cells c4 t4)).alloc (.cells c5 t5)).alloc (.cells c6 t6)) w.heap.size t1 c1 ∧
 CB ((((((w.alloc (.cells c1 t1)).alloc (.cells c2 t2)).alloc (.cells c3 t3)).alloc (.cells c4 t4)).alloc (.cells c5 t5)).alloc (.cells c6 t6)) (w.heap.size + 1) t2 c2 ∧ CB ((((((w.alloc (.cells c1 t1)).alloc (.cells c2 t2)).alloc (.cells c3 t3)).alloc (.cells c4 t4)).alloc (.cells c5 t5)).alloc (.cells c6 t6)) (w.heap.size + 1 + 1) t3 c3 ∧
 CB ((((((w.alloc (.cells c1 t1)).alloc (.cells c2 t2)).alloc (.cells c3 t3)).alloc (.cells c4 t4)).alloc (.cells c5 t5)).alloc (.cells c6 t6)) (w.heap.size + 1 + 1 + 1) t4 c4 ∧ CB ((((((w.alloc (.cells c1 t1)).alloc (.cells c2 t2)).alloc (.cells c3 t3)).alloc (.cells c4 t4)).alloc (.cells c5 t5)).alloc (.cells c6 t6)) (w.heap.size + 1 + 1 + 1 + 1) t5 c5 ∧
 CB ((((((w.alloc (.cells c1 t1)).alloc (.cells c2 t2)).alloc (.cells c3 t3)).alloc (.cells c4 t4)).alloc (.cells c5 t5)).alloc (.cells c6 t6)) (w.heap.size + 1 + 1 + 1 + 1 + 1) t6 c6 ∧ Below w.heap.size w ((((((w.alloc (.cells c1 t1)).alloc (.cells c2 t2)).alloc (.cells c3 t3)).alloc (.cells c4 t4)).alloc (.cells c5 t5)).alloc (.cells c6 t6)) := by
 have al : ∀ {W : World} {g : Nat} {e : TypeId} {cs : Array Value} (o : Obj), CB W g e cs → CB (W.alloc o) g e cs := fun o h => h.below (bl_alloc (Below.refl _ _) _)
 refine ⟨al _ (al _ (al _ (al _ (al _ (CB.new_at _ _ _ rfl))))), ?_, ?_, ?_, ?_, ?_, bl_alloc (bl_alloc (bl_alloc (bl_alloc (bl_alloc (bl_alloc (Below.refl _ _) _) _) _) _) _) _⟩
 · refine al _ (al _ (al _ (al _ (CB.new_at _ _ _ ?_)))); simp
 · refine al _ (al _ (al _ (CB.new_at _ _ _ ?_))); simp
 · refine al _ (al _ (CB.new_at _ _ _ ?_)); simp
 · refine al _ (CB.new_at _ _ _ ?_); simp
 · refine CB.new_at _ _ _ ?_; simp
section
variable {κ0 : Nat → Nat} {p d q n lines P N Bd : Nat} {t : Nat → Nat} {w : World} {σ : PwS} {q0 : List Int} {xs : List Int} {L : Nat → Int}
theorem raNext {k : RqK} {rl : Nat → List (Bool × Int × Int)} {now : Nat → Option Nat} {ms : List QM} {gs : List Nat} {T mu s : Nat} {e : Ending} {w' : World} (h : RaP k rl now ms gs T mu s e w') : e = .returned (.bool true) ∧ ∃ rl' now' ms' gs' T' mu', RqX k rl' now' ms' gs' T' mu' w' ∧ T' ≤ T + 1 ∧ mu' ≤ mu := by
 obtain ⟨h1, h2 | ⟨h2, rl', now', ms', gs', h3⟩⟩ := h
 · exact ⟨h1, rl, now, ms, gs, T, mu, h2.2.2, by omega, by omega⟩
 · exact ⟨h1, rl', now', ms', gs', T + 1, mu - 1, h3, by omega, by omega⟩
theorem raAct {k : RqK} {rl : Nat → List (Bool × Int × Int)} {now : Nat → Option Nat} {ms : List QM} {gs : List Nat} {T mu s : Nat} {e : Ending} {w' : World} (h : RaP k rl now ms gs T mu s e w') (ha : Active rl now ms s = true) : e = .returned (.bool true) ∧ ∃ rl' now' ms' gs' T' mu', RqX k rl' now' ms' gs' T' mu' w' ∧ mu' + 1 ≤ mu := by
 obtain ⟨h1, h2 | ⟨h2, rl', now', ms', gs', h3⟩⟩ := h
 · exact absurd ⟨h2.1, h2.2.1⟩ (not_idle ha)
 · exact ⟨h1, rl', now', ms', gs', T + 1, mu - 1, h3, by omega⟩
theorem rqIni {cs : List (Bool × Int × Int)} {nc bq bm an bn al bl : Nat} {W0 wc : World} (H : QuM κ0 p d q n lines P t (fun _ => none) w σ) (h012 : ∀ b, b < w.heap.size → κ0 b ≤ 2) (Q : QW sumI (atW 0) n 256 P q0 σ [] N 0 xs L []) (hcl : cs.length = nc) (hcr : ∀ c ∈ cs, (0 ≤ c.2.1 ∧ c.2.1 < 18446744073709551616) ∧ (-9223372036854775808 ≤ c.2.2 ∧ c.2.2 < 9223372036854775808)) (hbd : N + 4559 * (cs.take 7).length ≤ Bd ∧ Bd < 1000000 ∧ P < 1000000)
 (he : w.heap.size = bq ∧ bq + 1 = bm ∧ bm + 1 = an ∧ an + 1 = bn ∧ bn + 1 = al ∧ al + 1 = bl) (hB0 : Below w.heap.size w W0) (hK : CB W0 bq 25 #[.pointer (some ⟨q, 0, none⟩)] ∧ CB W0 bm 29 #[.slice none 0 0] ∧ CB W0 an 33 #[.pointer none, .pointer none, .pointer none] ∧ CB W0 bn 29 #[.slice (some ⟨an, 0, none⟩) 3 3] ∧ CB W0 al 22 #[.slice none 0 0, .slice none 0 0, .slice none 0 0] ∧ CB W0 bl 89 #[.slice (some ⟨al, 0, none⟩) 3 3] ∧ Below bq w W0)
 (hF : F1 cs W0 al (min nc 7) wc) : RqX ⟨κ0, w, p, d, q, n, lines, P, t, q0, csOf (cs.take 7), Bd, rB w.heap.size wc.heap.size⟩ (rlOf (cs.take 7)) (fun _ => none) [] [] 0 (4559 * (cs.take 7).length) (wc.alloc (.cells #[.int .i64 0] 3)) := by
 obtain ⟨A, cp, f1, f2, f3, f4⟩ := hF
 have htk : cs.take (min nc 7) = cs.take 7 := by
  by_cases h : nc ≤ 7
  · rw [Nat.min_eq_left h, List.take_of_length_le (by omega), List.take_of_length_le (by omega)]
  · rw [Nat.min_eq_right (by omega)]
 rw [htk] at f1 f2
 obtain ⟨k1, k2, k3, k4, k5, k6, k7⟩ := hK
 have hal := k5.lt
 have hbl := k6.lt
 have hs := f4.size
 have up : ∀ {b : Nat} {ty : TypeId} {vs : Array Value}, CB W0 b ty vs → b ≠ al → CB (wc.alloc (.cells #[.int .i64 0] 3)) b ty vs := fun hb hne => (hb.keep (f4.block _ hb.lt hne)).below (bl_alloc (Below.refl _ _) _)
 have hB : Below w.heap.size w (wc.alloc (.cells #[.int .i64 0] 3)) := bl_alloc (bl_ch hB0 f4 (fun b hb => by have hb : b = al := hb; omega)) _
 have hrB : rB w.heap.size wc.heap.size = ⟨bn, bl, bq, bm, wc.heap.size, an, al⟩ := by
  unfold rB
  rw [RqB.mk.injEq]
  exact ⟨by omega, by omega, by omega, by omega, rfl, by omega, by omega⟩
 rw [hrB]
 refine ⟨_, A, cp, [], none, 0, _, σ, xs, L, [], N, rqInit (k := ⟨κ0, w, p, d, q, n, lines, P, t, q0, csOf (cs.take 7), Bd, ⟨bn, bl, bq, bm, wc.heap.size, an, al⟩⟩) (cs := cs.take 7) H Q hB ?_ h012 (up k4 (show bn ≠ al by omega)) (up k6 (show bl ≠ al by omega)) (up k1 (show bq ≠ al by omega)) (up k2 (show bm ≠ al by omega)) (CB.new_at _ _ _ rfl) (up k3 (show an ≠ al by omega)) (f1.below (bl_alloc (Below.refl _ _) _)) (fun s hs => ?_) rfl (List.length_take_le _ _) (fun c hc => (hcr c (List.mem_of_mem_take hc)).1) hbd.1 hbd.2.1 hbd.2.2⟩
 · exact ⟨⟨by show w.heap.size ≤ bn; omega, by show w.heap.size ≤ bl; omega, by show w.heap.size ≤ bq; omega, by show w.heap.size ≤ bm; omega, by show w.heap.size ≤ wc.heap.size; omega, by show w.heap.size ≤ an; omega, by show w.heap.size ≤ al; omega⟩, by show bm ≠ wc.heap.size; omega, by show bm ≠ an; omega, by show bm ≠ al; omega, by show wc.heap.size ≠ an; omega, by show wc.heap.size ≠ al; omega, by show an ≠ al; omega, ⟨by show bn ≠ bm; omega, by show bn ≠ wc.heap.size; omega, by show bn ≠ an; omega, by show bn ≠ al; omega⟩, ⟨by show bl ≠ bm; omega, by show bl ≠ wc.heap.size; omega, by show bl ≠ an; omega, by show bl ≠ al; omega⟩, ⟨by show bq ≠ bm; omega, by show bq ≠ wc.heap.size; omega, by show bq ≠ an; omega, by show bq ≠ al; omega⟩⟩
 · obtain ⟨g1, g2⟩ := f2 s hs
   refine ⟨g1.keep (fun b hb => Below.heap_alloc _ _ _ (g1.lt hb)), fun b hb => ?_⟩
   have h1 := g2 b hb
   have h2 := g1.lt hb
   exact ⟨by show w.heap.size ≤ b; omega, by show b ≠ bm; omega, by show b ≠ wc.heap.size; omega, by show b ≠ an; omega, by show b ≠ al; omega⟩
set_option maxRecDepth 1000000 in
set_option maxHeartbeats 16000000 in
theorem frun30 (H : QuM κ0 p d q n lines P t (fun _ => none) w σ) (h012 : ∀ b, b < w.heap.size → κ0 b ≤ 2) (Q : QW sumI (atW 0) n 256 P q0 σ [] N 0 xs L []) (Ac : Option Addr) (nc cc : Nat) (cs : List (Bool × Int × Int)) (hnc : nc < 9223372036854775808) (hcs : LfV κ0 w Ac nc cc cs) (hcr : ∀ c ∈ cs, (0 ≤ c.2.1 ∧ c.2.1 < 18446744073709551616) ∧ (-9223372036854775808 ≤ c.2.2 ∧ c.2.2 < 9223372036854775808))
 (Ap : Option Addr) (np cp : Nat) (ps : List Int) (hps : ps.length = np) (hnp : np < 9223372036854775808) (hpd : Rd .i64 w Ap ps) (hpo : ∀ b, OwnB Ap b → 0 < np → κ0 b = 1) (hpr : ∀ z ∈ ps, -9223372036854775808 ≤ z ∧ z < 9223372036854775808) (fin : Bool) (hbd : N + 4559 * (cs.take 7).length ≤ Bd) (hbdl : Bd < 1000000) (hP6 : P < 1000000) :
 Calls Tryz.prog 12 #[.pointer (some ⟨q, 0, none⟩), .slice Ac nc cc, .slice Ap np cp, .bool fin] w (RunP30 κ0 p d q n lines P t q0 cs Bd w fin) := by
 have hm3 := make_machs3
 have hc3 := make_calls3
 have HH := Lib.hid H
 have HQ := Lib.hid Q
 have H012 := Lib.hid h012
 have HCS := Lib.hid hcs
 have HCR := Lib.hid hcr
 have HPS := Lib.hid hps
 have HPD := Lib.hid hpd
 have HPO := Lib.hid hpo
 have HPR := Lib.hid hpr
 have HBD := Lib.hid (And.intro hbd (And.intro hbdl hP6))
 have HCL : Hid (cs.length = nc) := hcs.1
 clear H Q h012 hcs hcr hps hpd hpo hpr hbd hbdl hP6
 go_enter Tryz.func12, Tryz.ntmps12
 go_upto_region 4 with (fail)
 have hK := alloc6 w #[.pointer (some ⟨q, 0, none⟩)] #[.slice none 0 0] #[.pointer none, .pointer none, .pointer none] #[.slice (some ⟨w.heap.size + 1 + 1, 0, none⟩) 3 3] #[.slice none 0 0, .slice none 0 0, .slice none 0 0] #[.slice (some ⟨w.heap.size + 1 + 1 + 1 + 1, 0, none⟩) 3 3] 25 29 33 29 22 89
 obtain ⟨W0, hW0⟩ : ∃ W0, ((((((w.alloc (.cells #[.pointer (some ⟨q, 0, none⟩)] 25)).alloc (.cells #[.slice none 0 0] 29)).alloc (.cells #[.pointer none, .pointer none, .pointer none] 33)).alloc (.cells #[.slice (some ⟨w.heap.size + 1 + 1, 0, none⟩) 3 3] 29)).alloc (.cells #[.slice none 0 0, .slice none 0 0, .slice none 0 0] 22)).alloc (.cells #[.slice (some ⟨w.heap.size + 1 + 1 + 1 + 1, 0, none⟩) 3 3] 89)) = W0 := ⟨_, rfl⟩
 rw [hW0] at hK
 rw [hW0]
 clear hW0 hm3 hc3
 obtain ⟨bq, e1⟩ : ∃ x, w.heap.size = x := ⟨_, rfl⟩
 obtain ⟨bm, e2⟩ : ∃ x, bq + 1 = x := ⟨_, rfl⟩
 obtain ⟨an, e3⟩ : ∃ x, bm + 1 = x := ⟨_, rfl⟩
 obtain ⟨bn, e4⟩ : ∃ x, an + 1 = x := ⟨_, rfl⟩
 obtain ⟨al, e5⟩ : ∃ x, bn + 1 = x := ⟨_, rfl⟩
 obtain ⟨bl, e6⟩ : ∃ x, al + 1 = x := ⟨_, rfl⟩
 have HE := Lib.hid (And.intro e1 (And.intro e2 (And.intro e3 (And.intro e4 (And.intro e5 e6)))))
 simp only [e1, e2, e3, e4, e5, e6] at hK
 have HB0 : Hid (Below w.heap.size w W0) := by show Below _ _ _; rw [e1]; exact hK.2.2.2.2.2.2
 have HK := Lib.hid hK
 simp only [e1, e2, e3, e4, e5, e6]
 clear hK e1 e2 e3 e4 e5 e6
 have HI0 : Hid (F1 cs W0 al 0 W0) := ⟨fun _ => none, fun _ => 0, HK.out.2.2.2.2.1, fun s hs => ⟨Sl.nil, fun b hb => by simp [OwnB] at hb⟩, fun s u _ _ _ b hb => by simp [OwnB] at hb, Ch.refl _ _⟩
 iterate 7 go_step
 go_cut [13, 14] from 23 (fun _ _ wx => F1 cs W0 al (min nc 7) wx)
 case first =>
  refine wp_block ?_
  go_loopw [13, 14, 23, 24, 25, 26, 27, 28, 29, 30, 31, 32, 33, 34, 35, 36, 37, 38, 39, 40, 41, 42, 43, 44, 45, 46, 47, 48, 49, 50, 51] (fun i _ _ _ _ _ _ _ _ _ _ _ _ _ _ _ _ _ _ _ _ _ _ _ _ _ _ _ _ _ _ wr => ∃ j : Nat, j ≤ nc ∧ j ≤ 7 ∧ i = .int .i64 j ∧ F1 cs W0 al j wr) (fun i _ _ _ _ _ _ _ _ _ _ _ _ _ _ _ _ _ _ _ _ _ _ _ _ _ _ _ _ _ _ _ => nc - (intOf i).toNat)
  case atStart => exact ⟨0, by omega, by omega, rfl, HI0.out⟩
  case round =>
   clear HI0
   obtain ⟨j, hj, hj7, rfl, hF⟩ := hrel
   have HF := Lib.hid hF
   by_cases hgo : j < nc ∧ j < 7
   · obtain ⟨hlt, hlt7⟩ := hgo
     have hlt' : (j : Int) < (nc : Int) := by omega
     have hlt7' : (j : Int) < 7 := by omega
     have hjc : j < cs.length := by rw [HCL.out]; exact hlt
     obtain ⟨g, off, hAc, hg1, hgl, hcel⟩ := HCS.out.2.2 (by omega)
     obtain ⟨z0, z1, z2⟩ := hcel j hlt
     have hcr := HCR.out _ (by rw [List.getD_eq_getElem?_getD, List.getElem?_eq_getElem hjc]; exact List.getElem_mem hjc : cs.getD j RC30 ∈ cs)
     obtain ⟨cj, hcj⟩ : ∃ cj, cs.getD j RC30 = cj := ⟨_, rfl⟩
     have HCJ := Lib.hid hcj
     rw [hcj] at z0 z1 z2 hcr
     obtain ⟨A, cpf, f1, f2, f3, f4⟩ := hF
     have hale : w.heap.size ≤ al ∧ bl ≠ al ∧ al < W0.heap.size ∧ bl < W0.heap.size := by
      have e := HE.out
      have h1 := HK.out.2.2.2.2.1.lt
      have h2 := HK.out.2.2.2.2.2.1.lt
      refine ⟨by omega, by omega, h1, h2⟩
     have HALE := Lib.hid hale
     have hww : ∀ o, wr.cell? ⟨g, o, none⟩ = w.cell? ⟨g, o, none⟩ := fun o => (f4.cells g o (Nat.lt_of_lt_of_le hgl HB0.out.size) (fun hx => by have hx : g = al := hx; omega)).trans (HB0.out.cell (p := ⟨g, o, none⟩) hgl)
     have zz0 := (hww _).trans z0
     have zz1 := (hww _).trans z1
     have zz2 := (hww _).trans z2
     have hglr : g < wr.heap.size := Nat.lt_of_lt_of_le (Nat.lt_of_lt_of_le hgl HB0.out.size) f4.size
     obtain ⟨s, hs, hth⟩ : ∃ s : Nat, s < 3 ∧ cj.2.2 % 3 = (s : Int) := ⟨(cj.2.2 % 3).toNat, by omega, by omega⟩
     have HMD : Hid (∀ W, Calls Tryz.prog 14 #[.int .i64 cj.2.2, .int .i64 3] W fun r w' => r = .returned (.int .i64 (s : Int)) ∧ W = w') := fun W => by
      have := fmod30 W cj.2.2 hcr.2 3 (by omega)
      rw [hth] at this; exact this
     have b1 : wr.cell? ⟨bl, 0, none⟩ = some (.slice (some ⟨al, 0, none⟩) 3 3) := (f4.cells bl 0 hale.2.2.2 (fun hx => hale.2.1 hx)).trans (HK.out.2.2.2.2.2.1.cell 0)
     have b2 := CB.now3 (s := s) (f := fun s => .slice (A s) (rlOf (cs.take j) s).length (cpf s)) (a := .pointer none) (b := .pointer none) (c := .pointer none) f1 hs
     have b3 := f1.frozen s
     have v1 : bl < wr.heap.size := Nat.lt_of_lt_of_le hale.2.2.2 f4.size
     have v2 := f1.lt
     have hs3 : (s : Int) < 3 := by omega
     have hs0 : (0 : Int) ≤ (s : Int) := by omega
     obtain ⟨ca, cb, ct⟩ := cj
     dsimp only at zz0 zz1 zz2 HMD hth
     have HSM : Hid (Sl 44 3 (wr.drew.alloc (.cells #[.bool ca, .int .u64 cb, .int .i64 ct] 44)) (A s) (rlOf (cs.take j) s).length (cpf s) (ccells (rlOf (cs.take j) s))) := (f2 s hs).1.keep (fun b hb => Below.heap_alloc wr.drew _ b ((f2 s hs).1.lt hb))
     have HFN := Lib.hid (And.intro hjc (And.intro hs (And.intro hth (And.intro f1 (And.intro f2 (And.intro f3 f4))))))
     have hnO : ¬ OwnB (A s) bl ∧ ¬ OwnB (A s) al ∧ ¬ OwnB (A s) g := ⟨fun hx => by have := (f2 s hs).2 _ hx; omega, fun hx => by have := (f2 s hs).2 _ hx; omega, fun hx => by have := (f2 s hs).2 _ hx; omega⟩
     have HNO := Lib.hid hnO
     have HGA : Hid (bl ≠ al ∧ g ≠ al) := ⟨hale.2.1, by omega⟩
     have hln : (rlOf (cs.take j) s).length ≤ 7 := by
      have h1 := List.length_filter_le (fun c : Bool × Int × Int => decide (c.2.2 % 3 = (s : Int))) (cs.take j)
      unfold rlOf
      rw [List.length_take] at h1
      omega
     obtain ⟨ln, hlne⟩ : ∃ ln, (rlOf (cs.take j) s).length = ln := ⟨_, rfl⟩
     have HLN := Lib.hid hlne
     rw [hlne] at b2 HSM hln
     generalize hAs : A s = As at *
     have HASE := Lib.hid hAs
     clear hAs
     generalize cpf s = cps at *
     subst hAc
     clear f1 f2 f3 f4 hww z0 z1 z2 hcel hgl hcr HF hcj hth hale hnO hg1 hlne
     go_upto_block 1 with (fail)
     go_cut [14] from 33 to 51 (fun _ wx => F1 cs W0 al (j + 1) wx)
     case first =>
      go_upto_region 8 with (go_at_call 14; (with_reducible refine (HMD.out _).mono ?_); rintro e w' ⟨rfl, rfl⟩)
      obtain ⟨hne1, hne2⟩ := HGA.out
      refine wp_region_held_drew (S := fun w' => w'.cell? ⟨bl, 0, none⟩ = some (.slice (some ⟨al, 0, none⟩) 3 3) ∧ w'.cell? ⟨g, off + j * 3, none⟩ = some (.bool ca) ∧ w'.cell? ⟨g, off + j * 3 + 1, none⟩ = some (.int .u64 cb) ∧ w'.cell? ⟨g, off + j * 3 + 2, none⟩ = some (.int .i64 ct) ∧ bl < w'.heap.size ∧ al < w'.heap.size ∧ g < w'.heap.size) (by kernel_rfl) (by (refine ⟨?_, ?_, ?_, ?_, ?_, ?_, ?_⟩ <;> first | assumption | (go_simp; done) | (simp; omega))) (fun hHeld => ?_)
      refine wpAnyH_take (i := 0) (v := ?_) rfl (by kernel_rfl) (by kernel_rfl) (by kernel_rfl) (fun _ _ _ h => h) (Or.inl ⟨by rfl, ?_⟩) (by assumption) ?_
      rotate_left
      · (intro w hSw; (try dsimp only at hSw); go_simp; try (with_reducible rfl))
      try simp only [Act.put, List.setIfInBounds_toArray, List.set_cons_zero, List.set_cons_succ]
      refine wpAnyH_take (i := 1) (v := ?_) rfl (by kernel_rfl) (by kernel_rfl) (by kernel_rfl) (fun _ _ _ h => h) (Or.inl ⟨by rfl, ?_⟩) (by assumption) ?_
      rotate_left
      · (intro w hSw; (try dsimp only at hSw); go_simp; try (with_reducible rfl))
      try simp only [Act.put, List.setIfInBounds_toArray, List.set_cons_zero, List.set_cons_succ]
      refine wpAnyH_take (i := 2) (v := ?_) rfl (by kernel_rfl) (by kernel_rfl) (by kernel_rfl) (fun _ _ _ h => h) (Or.inl ⟨by rfl, ?_⟩) (by assumption) ?_
      rotate_left
      · (intro w hSw; (try dsimp only at hSw); go_simp; try (with_reducible rfl))
      try simp only [Act.put, List.setIfInBounds_toArray, List.set_cons_zero, List.set_cons_succ]
      refine wpAnyH_take (i := 3) (v := ?_) rfl (by kernel_rfl) (by kernel_rfl) (by kernel_rfl) (fun _ _ _ h => h) (Or.inl ⟨by rfl, ?_⟩) (by assumption) ?_
      rotate_left
      · (intro w hSw; (try dsimp only at hSw); go_simp; try (with_reducible rfl))
      try simp only [Act.put, List.setIfInBounds_toArray, List.set_cons_zero, List.set_cons_succ]
      refine wpAnyH_take (i := 4) (v := ?_) rfl (by kernel_rfl) (by kernel_rfl) (by kernel_rfl) (fun _ _ _ h => h) (Or.inl ⟨by rfl, ?_⟩) (by assumption) ?_
      rotate_left
      · (intro w hSw; (try dsimp only at hSw); go_simp; try (with_reducible rfl))
      try simp only [Act.put, List.setIfInBounds_toArray, List.set_cons_zero, List.set_cons_succ]
      refine wpAnyH_take (i := 6) (v := ?_) rfl (by kernel_rfl) (by kernel_rfl) (by kernel_rfl) (fun _ _ _ h => h) (Or.inl ⟨by rfl, ?_⟩) (by assumption) ?_
      rotate_left
      · (intro w hSw; (try dsimp only at hSw); go_simp; try (with_reducible rfl))
      try simp only [Act.put, List.setIfInBounds_toArray, List.set_cons_zero, List.set_cons_succ]
      refine wpAnyH_take (i := 7) (v := ?_) rfl (by kernel_rfl) (by kernel_rfl) (by kernel_rfl) (fun _ _ _ h => h) (Or.inl ⟨by rfl, ?_⟩) (by assumption) ?_
      rotate_left
      · (intro w hSw; (try dsimp only at hSw); go_simp; try (with_reducible rfl))
      try simp only [Act.put, List.setIfInBounds_toArray, List.set_cons_zero, List.set_cons_succ]
      refine wpAnyH_take (i := 8) (v := ?_) rfl (by kernel_rfl) (by kernel_rfl) (by kernel_rfl) (fun _ _ _ h => h) (Or.inl ⟨by rfl, ?_⟩) (by assumption) ?_
      rotate_left
      · (intro w hSw; (try dsimp only at hSw); go_simp; try (with_reducible rfl))
      try simp only [Act.put, List.setIfInBounds_toArray, List.set_cons_zero, List.set_cons_succ]
      refine wpAnyH_take (i := 9) (v := ?_) rfl (by kernel_rfl) (by kernel_rfl) (by kernel_rfl) (fun _ _ _ h => h) (Or.inl ⟨by rfl, ?_⟩) (by assumption) ?_
      rotate_left
      · (intro w hSw; (try dsimp only at hSw); go_simp; try (with_reducible rfl))
      try simp only [Act.put, List.setIfInBounds_toArray, List.set_cons_zero, List.set_cons_succ]
      refine wpAnyH_ready (rs := [5, 10]) (by kernel_rfl) (by simp) ?_
      refine AllReadyH.cons rfl (fun K hK => ?_) ?_
      · go_simp
        refine hK.out _ _ ?_ (fun hHeld => ?_)
        · (try dsimp only)
          (refine ⟨?_, ?_, ?_, ?_, ?_, ?_, ?_⟩ <;> first | assumption | (go_simp; done) | (simp; omega))
        clear hK K
        try simp only [Act.put, List.setIfInBounds_toArray, List.set_cons_zero, List.set_cons_succ]
        refine wpAnyH_ready (rs := [10]) (by kernel_rfl) (by simp) ?_
        refine AllReadyH.cons rfl (fun K hK => ?_) ?_
        · go_simp
          refine hK.out _ _ ?_ (fun hHeld => ?_)
          · (try dsimp only)
            (refine ⟨?_, ?_, ?_, ?_, ?_, ?_, ?_⟩ <;> first | assumption | (go_simp; done) | (simp; omega))
          clear hK K
          try simp only [Act.put, List.setIfInBounds_toArray, List.set_cons_zero, List.set_cons_succ]
          refine wpAnyH_ready (rs := [11]) (by kernel_rfl) (by simp) ?_
          refine AllReadyH.cons rfl (fun K hK => ?_) ?_
          · (refine step_append_17 rfl (.tmp 44) (.tmp 49) 22 rfl 44 (.agg #[.bool false, .int .u64 0, .int .i64 0]) 3 24 rfl (by omega) Tryz.underlying22 info_call30 (by omega) As ln cps (ccells (rlOf (cs.take j) s)) ⟨wr.heap.size, 0, none⟩ 1 1 [.bool ca, .int .u64 cb, .int .i64 ct] (by go_simp) (by go_simp) HSM.out rfl (by omega) (cells_three wr.drew 44 _ _ _) (by simp; exact ⟨rfl, rfl, rfl⟩) (by omega) ?_; intro A4 c4 w4 HO4 HC4 HW4 HN4; have y1 : w4.cell? ⟨bl, 0, none⟩ = some (.slice (some ⟨al, 0, none⟩) 3 3) := (HC4.out.cells bl 0 (by first | (simp; done) | (simp; omega) | omega) HNO.out.1).trans (by go_simp); have y2 : w4.cell? ⟨al, s, none⟩ = some (.slice As ln cps) := (HC4.out.cells al s (by first | (simp; done) | (simp; omega) | omega) HNO.out.2.1).trans (by go_simp); have y3 : w4.frozen? ⟨al, s, none⟩ = false := (HC4.out.frozens al s (by first | (simp; done) | (simp; omega) | omega) HNO.out.2.1).trans (by go_simp); have y4 : bl < w4.heap.size := Nat.lt_of_lt_of_le (by first | (simp; done) | (simp; omega) | omega) HC4.out.size; have y5 : al < w4.heap.size := Nat.lt_of_lt_of_le (by first | (simp; done) | (simp; omega) | omega) HC4.out.size; have y6 : w4.cell? ⟨g, off + j * 3, none⟩ = some (.bool ca) := (HC4.out.cells g _ (by first | (simp; done) | (simp; omega) | omega) HNO.out.2.2).trans (by go_simp); have y7 : w4.cell? ⟨g, off + j * 3 + 1, none⟩ = some (.int .u64 cb) := (HC4.out.cells g _ (by first | (simp; done) | (simp; omega) | omega) HNO.out.2.2).trans (by go_simp); have y8 : w4.cell? ⟨g, off + j * 3 + 2, none⟩ = some (.int .i64 ct) := (HC4.out.cells g _ (by first | (simp; done) | (simp; omega) | omega) HNO.out.2.2).trans (by go_simp); have y9 : g < w4.heap.size := Nat.lt_of_lt_of_le (by first | (simp; done) | (simp; omega) | omega) HC4.out.size)
            refine hK.out _ _ ?_ (fun hHeld => ?_)
            · (try dsimp only)
              (refine ⟨?_, ?_, ?_, ?_, ?_, ?_, ?_⟩ <;> first | assumption | (go_simp; done) | (simp; omega))
            clear hK K
            try simp only [Act.put, List.setIfInBounds_toArray, List.set_cons_zero, List.set_cons_succ]
            refine wpAnyH_ready (rs := [12]) (by kernel_rfl) (by simp) ?_
            refine AllReadyH.cons rfl (fun K hK => ?_) ?_
            · go_simp
              refine hK.out _ _ ?_ (fun hHeld => ?_)
              · (try dsimp only)
                (refine ⟨?_, ?_, ?_, ?_, ?_, ?_, ?_⟩ <;> first | assumption | (go_simp; done) | (simp; omega))
              clear hK K
              try simp only [Act.put, List.setIfInBounds_toArray, List.set_cons_zero, List.set_cons_succ]
              refine wpAnyH_ready (rs := [13]) (by kernel_rfl) (by simp) ?_
              refine AllReadyH.cons rfl (fun K hK => ?_) ?_
              · go_simp
                refine hK.out _ _ ?_ (fun hHeld => ?_)
                · (try dsimp only)
                  (refine ⟨?_, ?_, ?_, ?_, ?_, ?_, ?_⟩ <;> first | assumption | (go_simp; done) | (simp; omega))
                clear hK K
                try simp only [Act.put, List.setIfInBounds_toArray, List.set_cons_zero, List.set_cons_succ]
                refine wpAnyH_done (by kernel_rfl) ?_ _
                go_wp2
                go_meet
                obtain ⟨g1, g2, g3, g4, g5, g6, g7⟩ := HFN.out
                have HO5 := HO4.out
                rw [← HLN.out] at HO5
                have HW5 := HW4.out
                have HC5 : Ch (OwnB As) (wr.drew.alloc (.cells #[.bool ca, .int .u64 cb, .int .i64 ct] 44)) w4 := HC4.out
                have HW6 : ∀ b, OwnB A4 b → OwnB As b ∨ b = (wr.drew.alloc (.cells #[.bool ca, .int .u64 cb, .int .i64 ct] 44)).heap.size := HW4.out
                rw [← HASE.out] at HC5 HW6
                rw [← HLN.out]
                exact F1.next g1 HCJ.out g2 g3 HALE.out.2.2.1 g4.drew (fun u hu => ⟨(g5 u hu).1.keep (fun b _ => rfl), (g5 u hu).2⟩) g6 g7.drew HO5 HC5 HW6
              · exact AllReadyH.nil
            · exact AllReadyH.nil
          · exact AllReadyH.nil
        · exact AllReadyH.nil
      · refine AllReadyH.cons rfl (fun K hK => ?_) ?_
        · go_simp
          refine hK.out _ _ ?_ (fun hHeld => ?_)
          · (try dsimp only)
            (refine ⟨?_, ?_, ?_, ?_, ?_, ?_, ?_⟩ <;> first | assumption | (go_simp; done) | (simp; omega))
          clear hK K
          try simp only [Act.put, List.setIfInBounds_toArray, List.set_cons_zero, List.set_cons_succ]
          refine wpAnyH_ready (rs := [5]) (by kernel_rfl) (by simp) ?_
          refine AllReadyH.cons rfl (fun K hK => ?_) ?_
          · go_simp
            refine hK.out _ _ ?_ (fun hHeld => ?_)
            · (try dsimp only)
              (refine ⟨?_, ?_, ?_, ?_, ?_, ?_, ?_⟩ <;> first | assumption | (go_simp; done) | (simp; omega))
            clear hK K
            try simp only [Act.put, List.setIfInBounds_toArray, List.set_cons_zero, List.set_cons_succ]
            refine wpAnyH_ready (rs := [11]) (by kernel_rfl) (by simp) ?_
            refine AllReadyH.cons rfl (fun K hK => ?_) ?_
            · (refine step_append_17 rfl (.tmp 44) (.tmp 49) 22 rfl 44 (.agg #[.bool false, .int .u64 0, .int .i64 0]) 3 24 rfl (by omega) Tryz.underlying22 info_call30 (by omega) As ln cps (ccells (rlOf (cs.take j) s)) ⟨wr.heap.size, 0, none⟩ 1 1 [.bool ca, .int .u64 cb, .int .i64 ct] (by go_simp) (by go_simp) HSM.out rfl (by omega) (cells_three wr.drew 44 _ _ _) (by simp; exact ⟨rfl, rfl, rfl⟩) (by omega) ?_; intro A4 c4 w4 HO4 HC4 HW4 HN4; have y1 : w4.cell? ⟨bl, 0, none⟩ = some (.slice (some ⟨al, 0, none⟩) 3 3) := (HC4.out.cells bl 0 (by first | (simp; done) | (simp; omega) | omega) HNO.out.1).trans (by go_simp); have y2 : w4.cell? ⟨al, s, none⟩ = some (.slice As ln cps) := (HC4.out.cells al s (by first | (simp; done) | (simp; omega) | omega) HNO.out.2.1).trans (by go_simp); have y3 : w4.frozen? ⟨al, s, none⟩ = false := (HC4.out.frozens al s (by first | (simp; done) | (simp; omega) | omega) HNO.out.2.1).trans (by go_simp); have y4 : bl < w4.heap.size := Nat.lt_of_lt_of_le (by first | (simp; done) | (simp; omega) | omega) HC4.out.size; have y5 : al < w4.heap.size := Nat.lt_of_lt_of_le (by first | (simp; done) | (simp; omega) | omega) HC4.out.size; have y6 : w4.cell? ⟨g, off + j * 3, none⟩ = some (.bool ca) := (HC4.out.cells g _ (by first | (simp; done) | (simp; omega) | omega) HNO.out.2.2).trans (by go_simp); have y7 : w4.cell? ⟨g, off + j * 3 + 1, none⟩ = some (.int .u64 cb) := (HC4.out.cells g _ (by first | (simp; done) | (simp; omega) | omega) HNO.out.2.2).trans (by go_simp); have y8 : w4.cell? ⟨g, off + j * 3 + 2, none⟩ = some (.int .i64 ct) := (HC4.out.cells g _ (by first | (simp; done) | (simp; omega) | omega) HNO.out.2.2).trans (by go_simp); have y9 : g < w4.heap.size := Nat.lt_of_lt_of_le (by first | (simp; done) | (simp; omega) | omega) HC4.out.size)
              refine hK.out _ _ ?_ (fun hHeld => ?_)
              · (try dsimp only)
                (refine ⟨?_, ?_, ?_, ?_, ?_, ?_, ?_⟩ <;> first | assumption | (go_simp; done) | (simp; omega))
              clear hK K
              try simp only [Act.put, List.setIfInBounds_toArray, List.set_cons_zero, List.set_cons_succ]
              refine wpAnyH_ready (rs := [12]) (by kernel_rfl) (by simp) ?_
              refine AllReadyH.cons rfl (fun K hK => ?_) ?_
              · go_simp
                refine hK.out _ _ ?_ (fun hHeld => ?_)
                · (try dsimp only)
                  (refine ⟨?_, ?_, ?_, ?_, ?_, ?_, ?_⟩ <;> first | assumption | (go_simp; done) | (simp; omega))
                clear hK K
                try simp only [Act.put, List.setIfInBounds_toArray, List.set_cons_zero, List.set_cons_succ]
                refine wpAnyH_ready (rs := [13]) (by kernel_rfl) (by simp) ?_
                refine AllReadyH.cons rfl (fun K hK => ?_) ?_
                · go_simp
                  refine hK.out _ _ ?_ (fun hHeld => ?_)
                  · (try dsimp only)
                    (refine ⟨?_, ?_, ?_, ?_, ?_, ?_, ?_⟩ <;> first | assumption | (go_simp; done) | (simp; omega))
                  clear hK K
                  try simp only [Act.put, List.setIfInBounds_toArray, List.set_cons_zero, List.set_cons_succ]
                  refine wpAnyH_done (by kernel_rfl) ?_ _
                  go_wp2
                  go_meet
                  obtain ⟨g1, g2, g3, g4, g5, g6, g7⟩ := HFN.out
                  have HO5 := HO4.out
                  rw [← HLN.out] at HO5
                  have HW5 := HW4.out
                  have HC5 : Ch (OwnB As) (wr.drew.alloc (.cells #[.bool ca, .int .u64 cb, .int .i64 ct] 44)) w4 := HC4.out
                  have HW6 : ∀ b, OwnB A4 b → OwnB As b ∨ b = (wr.drew.alloc (.cells #[.bool ca, .int .u64 cb, .int .i64 ct] 44)).heap.size := HW4.out
                  rw [← HASE.out] at HC5 HW6
                  rw [← HLN.out]
                  exact F1.next g1 HCJ.out g2 g3 HALE.out.2.2.1 g4.drew (fun u hu => ⟨(g5 u hu).1.keep (fun b _ => rfl), (g5 u hu).2⟩) g6 g7.drew HO5 HC5 HW6
                · exact AllReadyH.nil
              · exact AllReadyH.nil
            · exact AllReadyH.nil
          · exact AllReadyH.nil
        · exact AllReadyH.nil
     case rest =>
      have HCUT := Lib.hid hcut
      clear hcut HFN HSM
      go_wp2
      exact ⟨⟨j + 1, by omega, by omega, by go_num, HCUT.out⟩, by simp [intOf]; omega⟩
   · have hmin : j = min nc 7 := by omega
     have HFE : Hid (F1 cs W0 al (min nc 7) wr) := by show F1 _ _ _ _ _; rw [← hmin]; exact hF
     clear hF HF hmin
     by_cases hlt : j < nc
     · have hlt' : (j : Int) < (nc : Int) := by omega
       have hlt7' : ¬ (j : Int) < 7 := by omega
       go_wp2
       go_meet
       case rel => exact HFE.out
     · have hlt' : ¬ (j : Int) < (nc : Int) := by omega
       go_wp2
       go_meet
       case rel => exact HFE.out
 case rest =>
  clear HI0
  have HF := Lib.hid hcut
  clear hcut
  have hmf : ∀ (fn : Fn) (first cap : Array Value) (w : World), (Instr.makeFunc fn first cap).run Tryz.prog w = .ok (.func fn first cap) w := fun _ _ _ _ => rfl
  go_upto_region 11 with (fail)
  clear hmf
  obtain ⟨bt, hbt⟩ : ∃ bt, wc.heap.size = bt := ⟨_, rfl⟩
  have HINI : Hid (RqX ⟨κ0, w, p, d, q, n, lines, P, t, q0, csOf (cs.take 7), Bd, rB w.heap.size bt⟩ (rlOf (cs.take 7)) (fun _ => none) [] [] 0 (4559 * (cs.take 7).length) (wc.alloc (.cells #[.int .i64 0] 3))) := by
   rw [← hbt]
   exact rqIni HH.out H012.out HQ.out HCL.out HCR.out HBD.out HE.out HB0.out HK.out HF.out
  have HBT : Hid (rB w.heap.size bt = ⟨bn, bl, bq, bm, bt, an, al⟩) := by
   have e := HE.out
   show rB w.heap.size bt = _
   unfold rB
   rw [RqB.mk.injEq]
   exact ⟨by omega, by omega, by omega, by omega, rfl, by omega, by omega⟩
  obtain ⟨k, hk⟩ : ∃ k : RqK, k = ⟨κ0, w, p, d, q, n, lines, P, t, q0, csOf (cs.take 7), Bd, rB w.heap.size bt⟩ := ⟨_, rfl⟩
  have HKK : Hid (k.κ0 = κ0 ∧ k.w0 = w ∧ k.B = ⟨bn, bl, bq, bm, bt, an, al⟩ ∧ k.Bd < 1000000) := by
   refine ⟨by rw [hk], by rw [hk], by rw [hk]; exact HBT.out, by rw [hk]; exact HBD.out.2.1⟩
  have HPOST : Hid (∀ (e : Ending) (w' : World), (∃ (rl : Nat → List (Bool × Int × Int)) (now : Nat → Option Nat) (ms : List QM) (gs : List Nat) (T mu : Nat) (κ : Nat → Nat) (A : Nat → Option Addr) (cp : Nat → Nat) (oz : List Nat) (Am : Option Addr) (cm : Nat) (bs : Nat → Option Nat) (σ : PwS) (xs : List Int) (L : Nat → Int) (ord : List Nat) (N : Nat), e = .returned (.tuple #[.slice Am ms.length cm, .bool true]) ∧ RqS k rl now ms gs T mu w' κ A cp oz Am cm bs σ xs L ord N ∧ (fin = true → ∀ s, s < 3 → rl s = [] ∧ ∀ i m, now s = some i → ms[i]? = some m → m.ph.over = true) ∧ (fin = false → T ≤ 400)) → RunP30 κ0 p d q n lines P t q0 cs Bd w fin e w') := fun e w' hx => by
   obtain ⟨rl, now, ms, gs, T, mu, κ, A, cp, oz, Am, cm, bs, σ, xs, L, ord, N, h1, h2, h3⟩ := hx
   exact ⟨bt, rl, now, ms, gs, T, mu, κ, A, cp, oz, Am, cm, bs, σ, xs, L, ord, N, h1, by rw [hk] at h2; exact h2, h3⟩
  rw [← hk] at HINI
  obtain ⟨mu0, hmu0⟩ : ∃ mu0, 4559 * (cs.take 7).length = mu0 := ⟨_, rfl⟩
  have hmu1 : mu0 ≤ 31913 := by rw [← hmu0]; have := List.length_take_le 7 cs; omega
  rw [hmu0] at HINI
  obtain ⟨W2, hW2⟩ : ∃ W2, wc.alloc (.cells #[.int .i64 0] 3) = W2 := ⟨_, rfl⟩
  rw [hW2] at HINI
  try rw [hW2]
  try rw [hbt]
  have HRA : Hid (∀ (W : World) (rl : Nat → List (Bool × Int × Int)) (now : Nat → Option Nat) (ms : List QM) (gs : List Nat) (T mu s : Nat), s < 3 → RqX k rl now ms gs T mu W → Calls Tryz.prog 38 #[.int .i64 (s : Int), .pointer (some ⟨bn, 0, none⟩), .pointer (some ⟨bl, 0, none⟩), .pointer (some ⟨bq, 0, none⟩), .pointer (some ⟨bm, 0, none⟩), .pointer (some ⟨bt, 0, none⟩)] W (RaP k rl now ms gs T mu s)) := fun W rl now ms gs T mu s hs h => by
   have := frunA30 h hs
   rw [HKK.out.2.2.1] at this
   exact this
  clear hW2 hmu0 hk hbt HF HK HB0 HE HBT HH HQ H012 HCS HCR HCL HBD
  iterate 7 go_step
  go_cut [17] from 53 (fun _ wx => ∃ rl now ms gs T mu, RqX k rl now ms gs T mu wx ∧ T ≤ 400 ∧ mu ≤ 31913)
  case first =>
   refine wp_block ?_
   go_loopw [17, 8, 9, 53, 54, 55, 56, 57, 58, 59, 60, 61, 62, 63, 64, 65, 66, 67, 68, 69, 70] (fun i e8 e9 _ _ _ _ _ _ _ _ _ _ _ _ _ _ _ _ _ _ wr => ∃ (j : Nat) (rl : Nat → List (Bool × Int × Int)) (now : Nat → Option Nat) (ms : List QM) (gs : List Nat) (T mu : Nat), j ≤ np ∧ j ≤ 400 ∧ i = .int .i64 j ∧ e8 = .slice none 0 0 ∧ e9 = .bool false ∧ RqX k rl now ms gs T mu wr ∧ T ≤ j ∧ mu ≤ 31913) (fun i _ _ _ _ _ _ _ _ _ _ _ _ _ _ _ _ _ _ _ _ _ => np - (intOf i).toNat)
   case atStart => exact ⟨0, _, _, _, _, _, _, by omega, by omega, rfl, rfl, rfl, HINI.out, by omega, hmu1⟩
   case round =>
    clear HINI
    obtain ⟨j, rl, now, ms, gs, T, mu, hj, hj4, rfl, rfl, rfl, hX, hT, hmu⟩ := hrel
    have HX := Lib.hid hX
    by_cases hgo : j < np ∧ j < 400
    · obtain ⟨hlt, hlt4⟩ := hgo
      have hlt' : (j : Int) < (np : Int) := by omega
      have hlt4' : (j : Int) < 400 := by omega
      obtain ⟨gp, op, hAp, hgp, hcp⟩ := HPD.out.at_ (i := j) (by rw [HPS.out]; exact hlt)
      have hpr := HPR.out _ (List.getElem_mem (by rw [HPS.out]; exact hlt : j < ps.length))
      obtain ⟨z, hz⟩ : ∃ z, ps[j]'(by rw [HPS.out]; exact hlt) = z := ⟨_, rfl⟩
      rw [hz] at hcp hpr
      have hgw : wr.cell? ⟨gp, op + j, none⟩ = some (.int .i64 z) ∧ gp < wr.heap.size := by
       obtain ⟨κ, A, cp, oz, Am, cm, bs, σ, xs, L, ord, N, h⟩ := hX
       have hch := h.ch
       rw [HKK.out.1, HKK.out.2.1] at hch
       have ho := HPO.out gp (by rw [hAp]; rfl) (by omega)
       exact ⟨(hch.cells gp _ hgp (fun hx => by omega)).trans hcp, Nat.lt_of_lt_of_le hgp hch.size⟩
      obtain ⟨hgc, hgl⟩ := hgw
      obtain ⟨s, hs, hth⟩ : ∃ s : Nat, s < 3 ∧ z % 3 = (s : Int) := ⟨(z % 3).toNat, by omega, by omega⟩
      have HMD : Hid (∀ W, Calls Tryz.prog 14 #[.int .i64 z, .int .i64 3] W fun r w' => r = .returned (.int .i64 (s : Int)) ∧ W = w') := fun W => by
       have := fmod30 W z hpr 3 (by omega)
       rw [hth] at this; exact this
      have HST := Lib.hid (HRA.out wr rl now ms gs T mu s hs hX)
      subst hAp
      clear hX hcp hgp hpr hz hth hs
      go_wp2_with (first
       | (go_at_call 14; (with_reducible refine (HMD.out _).mono ?_); rintro e w' ⟨rfl, rfl⟩)
       | (go_at_call 38; (with_reducible refine HST.out.mono ?_); rintro e w2 hra; obtain ⟨rfl, rl', now', ms', gs', T', mu', hx1, hx2, hx3⟩ := raNext hra; have HX1 := Lib.hid hx1; have HX2 := Lib.hid (And.intro hx2 hx3); clear hra hx1 hx2 hx3))
      exact ⟨⟨j + 1, rl', now', ms', gs', T', mu', by omega, by omega, by go_num, rfl, rfl, HX1.out, by have := HX2.out.1; omega, by have := HX2.out.2; omega⟩, by simp [intOf]; omega⟩
    · have HEND : Hid (∃ rl now ms gs T mu, RqX k rl now ms gs T mu wr ∧ T ≤ 400 ∧ mu ≤ 31913) := ⟨rl, now, ms, gs, T, mu, hX, by omega, hmu⟩
      clear hX HX
      by_cases hlt : j < np
      · have hlt' : (j : Int) < (np : Int) := by omega
        have hlt4' : ¬ (j : Int) < 400 := by omega
        go_wp2
        go_meet
        case rel => exact HEND.out
      · have hlt' : ¬ (j : Int) < (np : Int) := by omega
        go_wp2
        go_meet
        case rel => exact HEND.out
  case rest =>
   clear HINI
   obtain ⟨rl, now, ms, gs, T, mu, hX, hT4, hmu⟩ := hcut
   have HX := Lib.hid hX
   cases fin with
   | false =>
     obtain ⟨κ, A, cp, oz, Am, cm, bs, σ, xs, L, ord, N, h⟩ := hX
     have hb : wc.cell? ⟨bm, 0, none⟩ = some (.slice Am ms.length cm) := by have := h.mem.cm_.cell 0; rw [HKK.out.2.2.1] at this; exact this
     have hbl : bm < wc.heap.size := by have := h.mem.cm_.lt; rw [HKK.out.2.2.1] at this; exact this
     have HS := Lib.hid h
     clear h HX
     go_wp2
     refine wp_loop_rounds 1 ?_
     rw [rounds_succ]
     go_wp2
     exact bodyPost_ret (v := .tuple #[.slice Am ms.length cm, .bool true]) (by simp [results, Tryz.results12, go_sem]) rfl (HPOST.out _ _ ⟨rl, now, ms, gs, T, mu, κ, A, cp, oz, Am, cm, bs, σ, xs, L, ord, N, rfl, HS.out, fun hx => (by cases hx), fun _ => hT4⟩)
   | true =>
     have hmuB := Lib.hid hmu
     clear hX hT4
     go_wp2
     go_loopw [18, 8, 9, 19, 20, 71, 72, 73, 74, 75, 76, 77, 78, 79, 80, 81, 82, 83, 84, 85, 86, 87, 88, 89, 90, 91, 92, 93, 94, 95, 96, 97, 98, 99, 100, 101, 102, 103, 104, 105, 106, 107, 108, 109, 110, 111] (fun i _ _ _ _ _ _ _ _ _ _ _ _ _ _ _ _ _ _ _ _ _ _ _ _ _ _ _ _ _ _ _ _ _ _ _ _ _ _ _ _ _ _ _ _ _ wr => ∃ (j : Nat) (rl : Nat → List (Bool × Int × Int)) (now : Nat → Option Nat) (ms : List QM) (gs : List Nat) (T mu : Nat), i = .int .i64 j ∧ j + mu ≤ 31913 ∧ RqX k rl now ms gs T mu wr) (fun i _ _ _ _ _ _ _ _ _ _ _ _ _ _ _ _ _ _ _ _ _ _ _ _ _ _ _ _ _ _ _ _ _ _ _ _ _ _ _ _ _ _ _ _ _ _ => 40000 - (intOf i).toNat)
     case atStart => exact ⟨0, rl, now, ms, gs, T, mu, rfl, by have := hmuB.out; omega, HX.out⟩
     case round =>
      clear HX hmu hmuB
      obtain ⟨j, rl, now, ms, gs, T, mu, rfl, hjm, hX⟩ := hrel
      have HX := Lib.hid hX
      have hj14 : (j : Int) < 140000 := by omega
      obtain ⟨wz, hwz⟩ : ∃ wz, wz = wr := ⟨wr, rfl⟩
      rw [← hwz] at HX ⊢
      have HJM := Lib.hid hjm
      clear hX hwz hjm
      go_wp2
      go_loopw [78, 8, 9, 19, 20, 79, 80, 81, 82, 83, 84, 85, 86, 87, 88, 89, 90, 91, 92, 93, 94, 95, 96, 97, 98, 99, 100, 101, 102, 103, 104, 105, 106, 107, 108] (fun i _ _ sb _ _ _ _ _ _ _ _ _ _ _ _ _ _ _ _ _ _ _ _ _ _ _ _ _ _ _ _ _ _ _ wr => ∃ (x : Nat) (b : Bool) (rl : Nat → List (Bool × Int × Int)) (now : Nat → Option Nat) (ms : List QM) (gs : List Nat) (T mu : Nat), i = .int .i64 x ∧ x ≤ 3 ∧ sb = .bool b ∧ RqX k rl now ms gs T mu wr ∧ (b = true → j + 1 + mu ≤ 31913) ∧ j + mu ≤ 31913 ∧ (b = false → ∀ s, s < x → Active rl now ms s = false)) (fun i _ _ _ _ _ _ _ _ _ _ _ _ _ _ _ _ _ _ _ _ _ _ _ _ _ _ _ _ _ _ _ _ _ _ _ => 3 - (intOf i).toNat)
      case atStart => exact ⟨0, false, rl, now, ms, gs, T, mu, rfl, by omega, rfl, HX.out, fun h => (by cases h), HJM.out, fun _ s hs => by omega⟩
      case round =>
       clear HX HJM
       obtain ⟨x, b, rl, now, ms, gs, T, mu, rfl, hx3, rfl, hX, hb1, hb2, hb3⟩ := hrel
       by_cases hx : x < 3
       · have hx' : (x : Int) < 3 := by omega
         have hx0 : (0 : Int) ≤ (x : Int) := by omega
         have HST := Lib.hid (HRA.out wr rl now ms gs T mu x hx hX)
         obtain ⟨c1, c2, l1, l2, l3, l4, ⟨A', c', c3⟩, hcase⟩ := hX.look (s := x) hx
         rw [HKK.out.2.2.1] at c1 c2 l1 l2 l3 l4 c3 hcase
         have HX := Lib.hid hX
         have HB := Lib.hid (And.intro hb1 (And.intro hb2 hb3))
         dsimp only at c1 c2 l1 l2 l3 l4 c3 hcase
         obtain ⟨ln, hln⟩ : ∃ ln, (rl x).length = ln := ⟨_, rfl⟩
         rw [hln] at c3 hcase
         have HLN := Lib.hid hln
         clear hX hb1 hb2 hb3 hln
         cases hact : Active rl now ms x with
         | true =>
           rw [hact] at hcase
           have HACT := Lib.hid hact
           clear hact
           have HCASE := Lib.hid hcase
           clear hcase
           rcases HCASE.out with ⟨d1, d2⟩ | ⟨gm, dn, d1, d2, d3, d4⟩
           · have hpos : (0 : Int) < (ln : Int) := by have := of_decide_eq_true d2.symm; omega
             clear d2
             go_wp2_with (go_at_call 38; (with_reducible refine HST.out.mono ?_); rintro e w2 hra; obtain ⟨rfl, rl', now', ms', gs', T', mu', hx1, hx2⟩ := raAct hra HACT.out; have HX1 := Lib.hid hx1; have HX2 := Lib.hid hx2; clear hra hx1 hx2)
             exact ⟨⟨x + 1, true, rl', now', ms', gs', T', mu', by go_num, by omega, rfl, HX1.out, fun _ => (by have := HX2.out; have := HB.out.2.1; omega), by have := HX2.out; have := HB.out.2.1; omega, fun h => (by cases h)⟩, by simp [intOf]; omega⟩
           · cases dn with
             | false =>
               clear d4
               go_wp2_with (go_at_call 38; (with_reducible refine HST.out.mono ?_); rintro e w2 hra; obtain ⟨rfl, rl', now', ms', gs', T', mu', hx1, hx2⟩ := raAct hra HACT.out; have HX1 := Lib.hid hx1; have HX2 := Lib.hid hx2; clear hra hx1 hx2)
               exact ⟨⟨x + 1, true, rl', now', ms', gs', T', mu', by go_num, by omega, rfl, HX1.out, fun _ => (by have := HX2.out; have := HB.out.2.1; omega), by have := HX2.out; have := HB.out.2.1; omega, fun h => (by cases h)⟩, by simp [intOf]; omega⟩
             | true =>
               have hpos : (0 : Int) < (ln : Int) := by have := of_decide_eq_true (by simpa using d4 : decide (0 < ln) = true); omega
               clear d4
               go_wp2_with (go_at_call 38; (with_reducible refine HST.out.mono ?_); rintro e w2 hra; obtain ⟨rfl, rl', now', ms', gs', T', mu', hx1, hx2⟩ := raAct hra HACT.out; have HX1 := Lib.hid hx1; have HX2 := Lib.hid hx2; clear hra hx1 hx2)
               exact ⟨⟨x + 1, true, rl', now', ms', gs', T', mu', by go_num, by omega, rfl, HX1.out, fun _ => (by have := HX2.out; have := HB.out.2.1; omega), by have := HX2.out; have := HB.out.2.1; omega, fun h => (by cases h)⟩, by simp [intOf]; omega⟩
         | false =>
           rw [hact] at hcase
           have HACT := Lib.hid hact
           clear hact HST
           have HEND : Hid (∃ (x' : Nat) (b' : Bool) (rl : Nat → List (Bool × Int × Int)) (now : Nat → Option Nat) (ms : List QM) (gs : List Nat) (T mu : Nat), Value.int .i64 ((x + 1 : Nat) : Int) = .int .i64 (x' : Int) ∧ x' ≤ 3 ∧ Value.bool b = .bool b' ∧ RqX k rl now ms gs T mu wr ∧ (b' = true → j + 1 + mu ≤ 31913) ∧ j + mu ≤ 31913 ∧ (b' = false → ∀ s, s < x' → Active rl now ms s = false)) := ⟨x + 1, b, rl, now, ms, gs, T, mu, rfl, by omega, rfl, HX.out, HB.out.1, HB.out.2.1, fun hb s hs => by
            by_cases hsx : s = x
            · rw [hsx]; exact HACT.out
            · exact HB.out.2.2 hb s (by omega)⟩
           have HCASE := Lib.hid hcase
           clear hcase HX HB
           rcases HCASE.out with ⟨d1, d2⟩ | ⟨gm, dn, d1, d2, d3, d4⟩
           · have hln0 : ln = 0 := by have := of_decide_eq_false d2.symm; omega
             subst hln0
             clear d2
             go_wp2
             obtain ⟨x', b', rl', now', ms', gs', T', mu', q1, q2, q3, q4⟩ := HEND.out
             exact ⟨⟨x', b', rl', now', ms', gs', T', mu', by rw [← q1]; go_num, q2, q3, q4⟩, by simp [intOf]; omega⟩
           · have hd4 := d4.symm
             rw [Bool.or_eq_false_iff] at hd4
             have hdn : dn = true := by simpa using hd4.1
             have hln0 : ln = 0 := by have := of_decide_eq_false hd4.2; omega
             subst hln0
             subst hdn
             clear d4 hd4
             go_wp2
             obtain ⟨x', b', rl', now', ms', gs', T', mu', q1, q2, q3, q4⟩ := HEND.out
             exact ⟨⟨x', b', rl', now', ms', gs', T', mu', by rw [← q1]; go_num, q2, q3, q4⟩, by simp [intOf]; omega⟩
       · obtain rfl : x = 3 := by omega
         cases b with
         | true =>
           have HNX := Lib.hid (And.intro hX (hb1 rfl))
           clear hX hb1 hb2 hb3
           go_wp2
           exact ⟨⟨j + 1, rl, now, ms, gs, T, mu, by go_num, by have := HNX.out.2; omega, HNX.out.1⟩, by have := HNX.out.2; simp [intOf]; omega⟩
         | false =>
           have hall := hb3 rfl
           obtain ⟨κ, A, cp, oz, Am, cm, bs, σ, xs, L, ord, N, h⟩ := hX
           have hb : wr.cell? ⟨bm, 0, none⟩ = some (.slice Am ms.length cm) := by have := h.mem.cm_.cell 0; rw [HKK.out.2.2.1] at this; exact this
           have hbl : bm < wr.heap.size := by have := h.mem.cm_.lt; rw [HKK.out.2.2.1] at this; exact this
           have HS := Lib.hid h
           have HALL : Hid (∀ s, s < 3 → rl s = [] ∧ ∀ i m, now s = some i → ms[i]? = some m → m.ph.over = true) := fun s hs => idle_of (hall s hs)
           clear h hall hb1 hb2 hb3
           go_wp2
           exact bodyPost_ret (v := .tuple #[.slice Am ms.length cm, .bool true]) (by simp [results, Tryz.results12, go_sem]) rfl (HPOST.out _ _ ⟨rl, now, ms, gs, T, mu, κ, A, cp, oz, Am, cm, bs, σ, xs, L, ord, N, rfl, HS.out, fun _ => HALL.out, fun hx => (by cases hx)⟩)
end
end Go.Proofs.YtaefkelaffijbaaGreatDoor
