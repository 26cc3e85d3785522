/- A run's thread begins its next call (merged). -/
import Derived.Test.YtaefkelaffijbaaGreatDoorKfm
namespace Go.Proofs.YtaefkelaffijbaaGreatDoor
open Go.RowKit
set_option linter.unusedVariables false
set_option linter.unusedSimpArgs false
theorem info_pM30 : (Tryz.prog.info? 33).map (fun i => (i.zero, i.size, i.bytes)) = some (some (.pointer none), 1, 8) := by kernel_rfl
/-- Behind the stores of the thread's calls and of its machine. -/
def NewRel (B : RqB) (s gm n c : Nat) (A' : Option Addr) (W1 wx : World) : Prop :=
 (∀ vs, CB W1 B.al 22 vs → CB wx B.al 22 (vs.setIfInBounds s (.slice A' n c))) ∧ (∀ vs, CB W1 B.an 33 vs → CB wx B.an 33 (vs.setIfInBounds s (.pointer (some ⟨gm, 0, none⟩)))) ∧ Ch (fun b => b = B.al ∨ b = B.an) W1 wx
theorem newRelA {B : RqB} {s gm n c : Nat} {A' : Option Addr} {W1 : World} (h : B.al ≠ B.an) : NewRel B s gm n c A' W1 ((W1.setCell ⟨B.al, s, none⟩ (.slice A' n c)).setCell ⟨B.an, s, none⟩ (.pointer (some ⟨gm, 0, none⟩))).drew :=
 ⟨fun vs hc => ((hc.set s _).far (p := ⟨B.an, s, none⟩) h _).drew, fun vs hc => ((hc.far (p := ⟨B.al, s, none⟩) (Ne.symm h) _).set s _).drew, ((((Ch.refl (At B.al) W1).set1 _ _).mono (fun b hb _ => .inl hb)).trans ((Ch.refl (At B.an) _).set1 _ _) (fun b hb _ => .inr hb)).drew⟩
theorem newRelB {B : RqB} {s gm n c : Nat} {A' : Option Addr} {W1 : World} (h : B.al ≠ B.an) : NewRel B s gm n c A' W1 ((W1.setCell ⟨B.an, s, none⟩ (.pointer (some ⟨gm, 0, none⟩))).setCell ⟨B.al, s, none⟩ (.slice A' n c)).drew :=
 ⟨fun vs hc => ((hc.far (p := ⟨B.an, s, none⟩) h _).set s _).drew, fun vs hc => ((hc.set s _).far (p := ⟨B.al, s, none⟩) (Ne.symm h) _).drew, ((((Ch.refl (At B.an) W1).set1 _ _).mono (fun b hb _ => .inr hb)).trans ((Ch.refl (At B.al) _).set1 _ _) (fun b hb _ => .inl hb)).drew⟩
section
variable {k : RqK} {rl : Nat → List (Bool × Int × Int)} {now : Nat → Option Nat} {ms : List QM} {gs : List Nat} {T mu : Nat} {w w' : World} {κ : Nat → Nat} {A : Nat → Option Addr} {cp : Nat → Nat} {oz : List Nat} {Am : Option Addr} {cm : Nat} {bs : Nat → Option Nat} {σ : PwS} {xs : List Int} {L : Nat → Int} {ord : List Nat} {N s i : Nat} {m : QM} {c : Bool × Int × Int} {rest : List (Bool × Int × Int)}
theorem newFin {ca : Bool} {cb cc : Int} {g off n1 n2 cps gm a c4 : Nat} {A' A4 : Option Addr} {B : RqB} {q : Nat} {W1 wc w4 : World} (h : RqS k rl now ms gs T mu w κ A cp oz Am cm bs σ xs L ord N) (hs : s < 3) (hd : ∀ i m, now s = some i → ms[i]? = some m → m.ph.over = true) (hrl : rl s = (ca, cb, cc) :: rest) (hA : A s = some ⟨g, off, none⟩)
 (hn1 : rest.length = n1) (hn2 : n1 + 1 = n2) (hcpp : cp s = cps) (hcp : n2 ≤ cps) (hA' : A' = if cps = 1 then some ⟨g, off, none⟩ else some ⟨g, off + 3, none⟩) (hB : k.B = B) (hq : k.q = q)
 (y1 : w.heap.size ≤ gm) (y2 : w.heap.size ≤ a) (y3 : a ≠ gm) (y4 : CB W1 gm 39 (mqc (qm0 ca cb s) a)) (y5 : CB W1 a 106 (qocell0 q s ca (if ca then cb % 1099511627776 else 0))) (y6 : CB W1 q 93 (qcells k.d k.p 2048 k.lines (fun i => if i = s then some a else bs i))) (y7 : Ch (At q) w W1)
 (r : NewRel B s gm (n2 - 1) (cps - 1) A' W1 wc) (o4 : Sl 33 1 w4 A4 (ms.length + 1) c4 (gs.map mpV ++ [.pointer (some ⟨gm, 0, none⟩)])) (c4_ : Ch (OwnB Am) (wc.alloc (.cells #[.pointer (some ⟨gm, 0, none⟩)] 33)) w4) (w4_ : ∀ b, OwnB A4 b → OwnB Am b ∨ b = (wc.alloc (.cells #[.pointer (some ⟨gm, 0, none⟩)] 33)).heap.size) (m4 : CB w4 B.bm 29 #[.slice Am ms.length cm]) :
 RqM (rolC κ w (w4.setCell ⟨B.bm, 0, none⟩ (.slice A4 (ms.length + 1) c4)) ms.length gm a A4) k.p k.d k.q k.n k.lines k.P k.t k.B (fun u => if u = s then rest else rl u) (fun u => if u = s then A' else A u) (fun u => if u = s then cps - 1 else cp u) (fun u => if u = s then some ms.length else now u) (ms ++ [qm0 ca cb s]) (gs ++ [gm]) (oz ++ [a]) A4 c4 (fun i => if i = s then some a else bs i) (w4.setCell ⟨B.bm, 0, none⟩ (.slice A4 (ms.length + 1) c4)) σ T ∧ Ch (fun b => κ b = 2 ∨ κ b = 3) w (w4.setCell ⟨B.bm, 0, none⟩ (.slice A4 (ms.length + 1) c4)) := by
 subst hB hq hn1 hn2 hcpp
 obtain ⟨r1, r2, r3⟩ := r
 have hM := h.mem
 have hbk := hM.bk
 have hkq := hM.qu.kq
 have hov : ∀ (j : Nat) (mj : QM), ms[j]? = some mj → mj.th = s → mj.ph.over = true := fun j mj hj he => by
  obtain ⟨b, b1, b2, b3⟩ := h.rn.lst j mj hj
  by_cases hjb : j = b
  · rw [he] at b1
    exact hd j mj (by rw [hjb]; exact b1) hj
  · exact b3 hjb
 have nk : ∀ b, κ b = 3 → b ≠ k.q := fun b hb he => by rw [he] at hb; omega
 have k1 : ∀ {b : Nat} {ty : TypeId} {vs : Array Value}, CB w b ty vs → κ b = 3 → CB W1 b ty vs := fun hb hk => hb.keep (y7.block _ hb.lt (nk _ hk))
 have kA : ∀ {b : Nat} {ty : TypeId} {vs : Array Value}, CB wc b ty vs → ¬ OwnB Am b → b ≠ k.B.bm → CB (w4.setCell ⟨k.B.bm, 0, none⟩ (.slice A4 (ms.length + 1) c4)) b ty vs := fun {b ty vs} hb h1 h2 => ((hb.below (bl_alloc (Below.refl _ _) _)).keep (c4_.block b (hb.below (bl_alloc (Below.refl _ _) _)).lt h1)).far (p := ⟨k.B.bm, 0, none⟩) h2 _
 have hal := r1 _ (k1 hM.cc hbk.kc)
 have han := r2 _ (k1 hM.ca hbk.ka)
 have nal : ¬ OwnB Am k.B.al := fun hx => (hbk.am _ hx).2.2.2.2 rfl
 have nan : ¬ OwnB Am k.B.an := fun hx => (hbk.am _ hx).2.2.2.1 rfl
 have hC5 : Ch (ChN k.B Am) W1 (w4.setCell ⟨k.B.bm, 0, none⟩ (.slice A4 (ms.length + 1) c4)) := by
  refine (((r3.mono (T := ChN k.B Am) (fun b hb _ => hb.elim (fun hx => .inl hx) (fun hx => .inr (.inl hx)))).trans (Ch.of_below (S := fun _ => False) (bl_alloc (Below.refl _ _) _)) (fun b hb _ => hb.elim)).trans c4_ (fun b hb _ => .inr (.inr (.inr hb)))).trans ((Ch.refl (At k.B.bm) w4).set1 _ _) (fun b hb _ => .inr (.inr (.inl hb)))
 have hcp1 : rest.length + 1 ≤ cp s := hcp
 refine hM.newc (c := (ca, cb, cc)) (rest := rest) (A' := A') (cA := cp s - 1) hs hov h.rn.lt y1 y2 y3 y4 y5 y6 y7 hC5 ?_ ?_ (m4.set 0 _) ?_ (fun b hb => ?_) ?_
 · have := kA hal nal (Ne.symm hbk.n3)
   rcases (by omega : s = 0 ∨ s = 1 ∨ s = 2) with rfl | rfl | rfl <;> simpa [Nat.add_sub_cancel] using this
 · have := kA han nan (Ne.symm hbk.n2)
   rcases (by omega : s = 0 ∨ s = 1 ∨ s = 2) with rfl | rfl | rfl <;> simpa [mpV] using this
 · rw [List.map_append]
   have hne : ∀ b, OwnB A4 b → b ≠ k.B.bm := fun b hb he => by
    rcases w4_ b hb with hx | hx
    · exact (hbk.am b hx).2.1 he
    · have h1 := (k1 hM.cm_ hbk.km).lt
      have h2 := r3.size
      simp at hx
      omega
   exact o4.keep (fun b hb => Below.heap_setCell _ _ _ _ (hne b hb))
 · rcases w4_ b hb with hx | hx
   · exact .inl hx
   · have := r3.size
     simp at hx
     exact .inr (by omega)
 · obtain ⟨e1, e2, e3⟩ := hM.lv s hs
   rw [hrl] at e1 e2 e3
   refine ⟨rfl, by omega, fun hp => ?_⟩
   obtain ⟨g', off', f1, f2, f3, f4⟩ := e3 (by simp)
   rw [hA] at f1
   injection f1 with f1
   injection f1 with f1 f1'
   subst f1 f1'
   have hc1 : ¬ cp s = 1 := by omega
   rw [if_neg hc1] at hA'
   refine ⟨g, off + 3, hA', f2, f3, fun j hj => ?_⟩
   have := f4 (j + 1) (by simp; omega)
   rw [List.getD_cons_succ] at this
   have e : off + (j + 1) * 3 = off + 3 + j * 3 := by omega
   rw [e] at this
   exact this
set_option maxRecDepth 100000 in
set_option maxHeartbeats 16000000 in
theorem runA_new (h : RqS k rl now ms gs T mu w κ A cp oz Am cm bs σ xs L ord N) (hs : s < 3) (hd : ∀ i m, now s = some i → ms[i]? = some m → m.ph.over = true) (hrl : rl s = c :: rest) :
 Calls Tryz.prog 38 #[.int .i64 (s : Int), .pointer (some ⟨k.B.bn, 0, none⟩), .pointer (some ⟨k.B.bl, 0, none⟩), .pointer (some ⟨k.B.bq, 0, none⟩), .pointer (some ⟨k.B.bm, 0, none⟩), .pointer (some ⟨k.B.bt, 0, none⟩)] w (RaP k rl now ms gs T mu s) := by
 have HH := Lib.hid h
 have HD := Lib.hid hd
 have HRL := Lib.hid hrl
 have c1 : w.cell? ⟨k.B.bn, 0, none⟩ = some (.slice (some ⟨k.B.an, 0, none⟩) 3 3) := h.mem.cn.cell 0
 have c2 : w.cell? ⟨k.B.bl, 0, none⟩ = some (.slice (some ⟨k.B.al, 0, none⟩) 3 3) := h.mem.cl.cell 0
 have c3 : w.cell? ⟨k.B.bq, 0, none⟩ = some (.pointer (some ⟨k.q, 0, none⟩)) := h.mem.cq.cell 0
 have hn := CB.now3 (s := s) (f := nowV now gs) (a := .pointer none) (b := .pointer none) (c := .pointer none) h.mem.ca hs
 have hc := CB.now3 (s := s) (f := fun s => .slice (A s) (rl s).length (cp s)) (a := .pointer none) (b := .pointer none) (c := .pointer none) h.mem.cc hs
 obtain ⟨_, hcp, hvv⟩ := h.mem.lv s hs
 rw [hrl] at hcp hvv
 obtain ⟨g, off, hA, hg1, hgl, hcel⟩ := hvv (by simp)
 have hcel0 := hcel 0 (by simp)
 simp only [Nat.zero_mul, Nat.add_zero, List.getD_cons_zero] at hcel0
 obtain ⟨z0, z1, z2⟩ := hcel0
 simp only [hrl, hA, List.length_cons] at hc hcp
 have l1 := h.mem.cn.lt
 have l2 := h.mem.ca.lt
 have l3 := h.mem.cl.lt
 have l4 := h.mem.cc.lt
 have l5 := h.mem.cq.lt
 have hs3 : (s : Int) < 3 := by omega
 have hs0 : (0 : Int) ≤ (s : Int) := by omega
 have hcase : nowV now gs s = .pointer none ∨ ∃ gm, nowV now gs s = .pointer (some ⟨gm, 0, none⟩) ∧ w.cell? ⟨gm, 9, none⟩ = some (.bool true) ∧ gm < w.heap.size := by
  cases hns : now s with
  | none => exact .inl (nowV_none hns)
  | some i =>
    obtain ⟨m, e1, e2⟩ := h.rn.nw s i hns
    have hm := h.mem.mm i m e1
    refine .inr ⟨_, nowV_some hns, ?_, hm.cb.lt⟩
    have := hm.cb.cell 9
    rw [this]
    show some (Value.bool m.ph.over) = _
    rw [hd i m hns e1]
 have hov : ∀ (j : Nat) (mj : QM), ms[j]? = some mj → mj.th = s → mj.ph.over = true := fun j mj hj he => by
  obtain ⟨b, b1, b2, b3⟩ := h.rn.lst j mj hj
  by_cases hjb : j = b
  · rw [he] at b1
    exact hd j mj (by rw [hjb]; exact b1) hj
  · exact b3 hjb
 have hbs : bs s = none := h.mem.bo s (fun j mj hj ho he => by rw [hov j mj hj he] at ho; cases ho)
 have hv := h.rv s c (by rw [hrl]; simp)
 have HBG := Lib.hid (fun (W : World) (hW : Below w.heap.size w W) => fbegin30 (h.mem.qu.pm.bl0 hW) (h.mem.qu.hq.below hW) s (by omega) hbs (h.qw.inv.on.err s) c.1 c.2.1 c.2.2 hv)
 obtain ⟨B, hB⟩ : ∃ B, k.B = B := ⟨_, rfl⟩
 obtain ⟨q, hq⟩ : ∃ q, k.q = q := ⟨_, rfl⟩
 have HQB := Lib.hid (And.intro hB hq)
 have hneq : ∀ b, κ b ≠ 2 → b ≠ k.q := fun b hb he => hb (by rw [he]; exact h.mem.qu.kq)
 have HNE : Hid (k.B.bn ≠ k.q ∧ k.B.an ≠ k.q ∧ k.B.bl ≠ k.q ∧ k.B.al ≠ k.q ∧ k.B.bm ≠ k.q ∧ k.B.bt ≠ k.q) := ⟨hneq _ (by have := h.mem.bk.kn; omega), hneq _ (by have := h.mem.bk.ka; omega), hneq _ (by have := h.mem.bk.kl; omega), hneq _ (by have := h.mem.bk.kc; omega), hneq _ (by have := h.mem.bk.km; omega), hneq _ (by have := h.mem.bk.kt; omega)⟩
 have HGQ : Hid (g ≠ k.q) := hneq g (by omega)
 have HA := Lib.hid hA
 rw [hB, hq] at HNE
 rw [hq] at HBG c3
 rw [hB] at c1 c2 c3 hn hc l1 l2 l3 l4 l5 ⊢
 obtain ⟨ca, cb, cc⟩ := c
 obtain ⟨n1, hn1⟩ : ∃ n1, rest.length = n1 := ⟨_, rfl⟩
 have HN1 := Lib.hid hn1
 rw [hn1] at hc hcp
 dsimp only at z0 z1 z2 HBG
 generalize hcpp : cp s = cps at *
 have hn1' : (0 : Int) < ((n1 + 1 : Nat) : Int) := by omega
 obtain ⟨n2, hn2⟩ : ∃ n2, n1 + 1 = n2 := ⟨_, rfl⟩
 rw [hn2] at hc hcp hn1'
 have hn2n : ¬ n2 = 0 := by omega
 clear h hd hov hbs hv hA hg1 hcel hvv hB hq hneq hrl
 have HCASE := Lib.hid hcase
 clear hcase
 rcases HCASE.out with hx | ⟨g9, hx, z9, zl⟩
 · rw [hx] at hn
   go_enter Tryz.func38, Tryz.ntmps38
   go_upto_region 4 with (fail)
   refine ord_reads [0, 1, 2, 3, 4, 5, 6, 7] [.h [8, 9], .q [10, 11, 12, 13]] (by kernel_rfl) (fun _ _ d _ _ h => by cases d <;> exact h) (by kernel_rfl) ?_
   dsimp only [pick, List.filterMap, List.getElem?_cons_zero, List.getElem?_cons_succ]
   (repeat (go_big_quiet_step (fail))); refine wpQuiet_nil ?_
   rintro _ ⟨nq, rfl⟩
   with_reducible refine part_hard ?_
   dsimp only [pick, List.filterMap, List.getElem?_cons_zero, List.getElem?_cons_succ]
   go_wp2_with (go_at_call 29; (with_reducible refine (HBG.out _ (by (repeat (first | with_reducible (first | exact Below.refl _ _ | refine bl_alloc ?_ _ | refine bl_drew ?_ | refine bl_drewN ?_ _ | refine bl_bx ?_ _ | exact BX.below _ | refine bl_set ?_ (by first | (exact Nat.le_refl _) | (simp; done) | (simp; omega)) _) | assumption)))).mono ?_); rintro e w1 ⟨gm, a, rfl, y1, y2, y3, y4, y5, y6, y7⟩; have Y1 := Lib.hid y1; have Y2 := Lib.hid y2; have Y3 := Lib.hid y3; have Y4 := Lib.hid y4; have Y5 := Lib.hid y5; have Y6 := Lib.hid y6; have Y7 := Lib.hid y7; clear y1 y2 y3 y4 y5 y6 y7)
   with_reducible refine segs_end ?_
   with_reducible refine part_reads ?_
   dsimp only [pick, List.filterMap, List.getElem?_cons_zero, List.getElem?_cons_succ]
   (repeat (go_big_quiet_step (fail))); refine wpQuiet_nil ?_
   rintro _ ⟨nq2, rfl⟩
   with_reducible refine part_nil ?_
   go_upto_region 10 with (fail)
   have HB1 : Hid (Ch (At q) w (w1.drewN nq2)) := ((Ch.of_below (S := At q) (bl_drewN (Below.refl _ _) nq)).trans Y7.out (fun b hb _ => hb)).trans (Ch.of_below (S := At q) (bl_drewN (Below.refl _ _) nq2)) (fun b hb _ => hb)
   obtain ⟨W1, hW1⟩ : ∃ W1, w1.drewN nq2 = W1 := ⟨_, rfl⟩
   have HX1 : Hid (CB W1 gm 39 (mqc (qm0 ca cb s) a) ∧ CB W1 a 106 (qocell0 q s ca (if ca then cb % 1099511627776 else 0)) ∧ CB W1 q 93 (qcells k.d k.p 2048 k.lines (fun i => if i = s then some a else bs i))) := by
    rw [← hW1]; exact ⟨Y4.out.drewN nq2, Y5.out.drewN nq2, Y6.out.drewN nq2⟩
   rw [hW1] at HB1 ⊢
   clear hW1
   have x1 : W1.cell? ⟨B.bn, 0, none⟩ = _ := (HB1.out.cells B.bn 0 l1 HNE.out.1).trans c1
   have x2 : W1.cell? ⟨B.bl, 0, none⟩ = _ := (HB1.out.cells B.bl 0 l3 HNE.out.2.2.1).trans c2
   have x3 : W1.cell? ⟨B.an, s, none⟩ = _ := (HB1.out.cells B.an s l2 HNE.out.2.1).trans hn
   have x4 : W1.cell? ⟨B.al, s, none⟩ = _ := (HB1.out.cells B.al s l4 HNE.out.2.2.2.1).trans hc
   have x5 : W1.frozen? ⟨B.an, s, none⟩ = false := (HB1.out.frozens B.an s l2 HNE.out.2.1).trans (HH.out.mem.ca |> fun h => by rw [HQB.out.1] at h; exact h.frozen s)
   have x6 : W1.frozen? ⟨B.al, s, none⟩ = false := (HB1.out.frozens B.al s l4 HNE.out.2.2.2.1).trans (HH.out.mem.cc |> fun h => by rw [HQB.out.1] at h; exact h.frozen s)
   have v1 := Nat.lt_of_lt_of_le l1 HB1.out.size
   have v2 := Nat.lt_of_lt_of_le l2 HB1.out.size
   have v3 := Nat.lt_of_lt_of_le l3 HB1.out.size
   have v4 := Nat.lt_of_lt_of_le l4 HB1.out.size
   have hbk := HH.out.mem.bk
   rw [HQB.out.1] at hbk
   have hd1 : B.al ≠ B.an := Ne.symm hbk.n6
   have hd2 : B.bl ≠ B.al := fun hx => by have h1 := hbk.kl; have h2 := hbk.kc; rw [hx] at h1; omega
   have hd3 : B.bl ≠ B.an := fun hx => by have h1 := hbk.kl; have h2 := hbk.ka; rw [hx] at h1; omega
   have hd4 : B.bn ≠ B.al := fun hx => by have h1 := hbk.kn; have h2 := hbk.kc; rw [hx] at h1; omega
   have hd5 : B.bn ≠ B.an := fun hx => by have h1 := hbk.kn; have h2 := hbk.ka; rw [hx] at h1; omega
   clear c1 c2 c3 hn hc l1 l2 l3 l4 l5 z0 z1 z2 hgl
   have hn2c : (1 : Int) ≤ ((n2 : Nat) : Int) := by omega
   have hn2cp : ((n2 : Nat) : Int) ≤ ((cps : Nat) : Int) := by omega
   obtain ⟨A', hA'⟩ : ∃ A' : Option Addr, A' = if cps = 1 then some ⟨g, off, none⟩ else some ⟨g, off + 3, none⟩ := ⟨_, rfl⟩
   have HA' := Lib.hid hA'
   clear hA'
   go_cut [] from 49 to 60 (fun wx => NewRel B s gm (n2 - 1) (cps - 1) A' W1 wx)
   case first =>
    go_region_with (fail)
    all_goals rw [← HA'.out]
    all_goals go_wp2
    all_goals go_meet
    all_goals first | exact newRelA hd1 | exact newRelB hd1
   case rest =>
    obtain ⟨r1, r2, r3⟩ := hcut
    have R1 := Lib.hid r1
    have R2 := Lib.hid r2
    have R3 := Lib.hid r3
    clear r1 r2 r3 x1 x2 x3 x4 x5 x6 v1 v2 v3 v4
    have hM := HH.out.mem
    rw [HQB.out.1] at hM
    have hb1 : W1.heap[B.bm]? = w.heap[B.bm]? := HB1.out.block B.bm hM.cm_.lt HNE.out.2.2.2.2.1
    have hmc : CB wc B.bm 29 #[.slice Am ms.length cm] := (hM.cm_.keep hb1).keep (R3.out.block B.bm (hM.cm_.keep hb1).lt (fun hx => hx.elim hbk.n3 hbk.n2))
    have HMC := Lib.hid hmc
    have hSl : Sl 33 1 wc Am ms.length cm (gs.map mpV) := by
     refine hM.sl.keep (fun b hb => ?_)
     have e := hbk.am b hb
     have hbw := hM.sl.lt hb
     refine (R3.out.block b (Nat.lt_of_lt_of_le hbw HB1.out.size) (fun hx => hx.elim e.2.2.2.2 e.2.2.2.1)).trans (HB1.out.block b hbw (fun hx => ?_))
     have e1 := e.1
     have e2 := hM.qu.kq
     rw [HQB.out.2] at e2
     rw [show b = q from hx] at e1
     omega
    have HSL := Lib.hid hSl
    have m0 : wc.cell? ⟨B.bm, 0, none⟩ = some (.slice Am ms.length cm) := hmc.cell 0
    have mf := hmc.frozen 0
    have ml := hmc.lt
    have h7 : ms.length ≤ 7 := by have := HH.out.seven; omega
    clear hM hmc hSl hb1 hbk hd1 hd2 hd3 hd4 hd5
    go_upto_region 12 with (at_builtin; refine wpList_append_sl rfl (.tmp 61) (.tmp 63) 29 rfl 33 (.pointer none) 1 8 rfl (by omega) Tryz.underlying29 info_pM30 (by omega) Am ms.length cm (gs.map mpV) ⟨wc.heap.size, 0, none⟩ 1 1 [.pointer (some ⟨gm, 0, none⟩)] rfl rfl (HSL.out.keep (fun b hb => Below.heap_alloc _ _ _ (HSL.out.lt hb))) rfl (by omega) (cells_one17 wc 33 _) (by simp; rfl) (by omega) ?_; intro A4 c4 w4 HO4 HC4 HW4 HG4; have hbmA : ¬ OwnB Am B.bm := (fun hx => (HH.out.mem.bk |> fun h => (by rw [HQB.out.1] at h; exact (h.am _ hx).2.1 rfl))); have hm4 : CB w4 B.bm 29 #[.slice Am ms.length cm] := (HMC.out.below (bl_alloc (Below.refl _ _) _)).keep (HC4.out.block _ (HMC.out.below (bl_alloc (Below.refl _ _) _)).lt hbmA); have HM4 := Lib.hid hm4; have n0 : w4.cell? ⟨B.bm, 0, none⟩ = some (.slice Am ms.length cm) := hm4.cell 0; have nf := hm4.frozen 0; have nl := hm4.lt; clear hm4 hbmA)
    have hNEW := newFin HH.out hs HD.out HRL.out HA.out HN1.out hn2 hcpp hcp HA'.out HQB.out.1 HQB.out.2 Y1.out Y2.out Y3.out HX1.out.1 HX1.out.2.1 HX1.out.2.2 HB1.out ⟨R1.out, R2.out, R3.out⟩ HO4.out HC4.out HW4.out HM4.out
    obtain ⟨W5, hW5⟩ : ∃ W5, w4.setCell ⟨B.bm, 0, none⟩ (.slice A4 (ms.length + 1) c4) = W5 := ⟨_, rfl⟩
    rw [hW5] at hNEW ⊢
    clear hW5 n0 nf nl m0 mf ml
    obtain ⟨hN1, hN2⟩ := hNEW
    have HST := Lib.hid (fun (W : World) (hW : Below W5.heap.size W5 W) => HH.out.newT hs HRL.out HD.out (hN1.bl hW) (fun b hb => rolC_old hb) (hN2.trans (Ch.of_below (S := fun _ => False) hW) (fun _ hx _ => hx.elim)))
    rw [HQB.out.1] at HST
    have hT : T < 1000000 := by have := HH.out.tb; have := HH.out.bdl; omega
    have hnn : nowV (fun u => if u = s then some ms.length else now u) (gs ++ [gm]) s = .pointer (some ⟨gm, 0, none⟩) := by
     unfold nowV
     simp only [if_true, Option.map_some, ← HH.out.mem.lg, getD_last]
     rfl
    have u1 : W5.cell? ⟨B.bn, 0, none⟩ = some (.slice (some ⟨B.an, 0, none⟩) 3 3) := by have := hN1.cn.cell 0; rw [HQB.out.1] at this; exact this
    have u2 := CB.now3 (s := s) (f := nowV (fun u => if u = s then some ms.length else now u) (gs ++ [gm])) (a := .pointer none) (b := .pointer none) (c := .pointer none) hN1.ca hs
    rw [hnn, HQB.out.1] at u2
    have u3 : W5.cell? ⟨B.bt, 0, none⟩ = some (.int .i64 (T : Int)) := by have := hN1.ct.cell 0; rw [HQB.out.1] at this; exact this
    have v1 : B.bn < W5.heap.size := by have := hN1.cn.lt; rw [HQB.out.1] at this; exact this
    have v2 : B.an < W5.heap.size := by have := hN1.ca.lt; rw [HQB.out.1] at this; exact this
    have v3 : B.bt < W5.heap.size := by have := hN1.ct.lt; rw [HQB.out.1] at this; exact this
    have e1 : IntKind.i64.wrap ((T : Int) + 1) = ((T + 1 : Nat) : Int) := by rw [IntWalk.i64_in _ (by omega)]; omega
    obtain ⟨T1, hT1⟩ : ∃ T1, T + 1 = T1 := ⟨_, rfl⟩
    rw [hT1] at HST e1
    have HT1 := Lib.hid hT1
    clear hN1 hN2 hT hnn hT1
    refine ord_reads [0, 1, 2, 3, 4] [.h [5]] (by kernel_rfl) (fun _ _ d _ _ h => by cases d <;> exact h) (by kernel_rfl) ?_
    dsimp only [pick, List.filterMap, List.getElem?_cons_zero, List.getElem?_cons_succ]
    (repeat (go_big_quiet_step (fail))); refine wpQuiet_nil ?_
    rintro _ ⟨nq5, rfl⟩
    with_reducible refine part_hard ?_
    dsimp only [pick, List.filterMap, List.getElem?_cons_zero, List.getElem?_cons_succ]
    go_wp2_with (go_at_call 30; (with_reducible refine (HST.out _ (by (repeat (first | with_reducible (first | exact Below.refl _ _ | refine bl_alloc ?_ _ | refine bl_drew ?_ | refine bl_drewN ?_ _ | refine bl_bx ?_ _ | exact BX.below _ | refine bl_set ?_ (by first | (exact Nat.le_refl _) | (simp; done) | (simp; omega)) _) | assumption)))).mono ?_); rintro e w2 ⟨rfl, z1, z2, z3, z4, rl', now', ms', hx⟩; have HX := Lib.hid hx; have HMU := Lib.hid z4; clear hx z4)
    with_reducible refine segs_end ?_
    with_reducible refine part_nil ?_
    go_wp2
    exact bodyPost_ret (v := .bool true) (by simp [results, Tryz.results38, go_sem]) rfl ⟨rfl, .inr ⟨HMU.out, rl', now', ms', _, by rw [HT1.out]; exact HX.out⟩⟩
 · rw [hx] at hn
   go_enter Tryz.func38, Tryz.ntmps38
   go_upto_region 4 with (fail)
   refine ord_reads [0, 1, 2, 3, 4, 5, 6, 7] [.h [8, 9], .q [10, 11, 12, 13]] (by kernel_rfl) (fun _ _ d _ _ h => by cases d <;> exact h) (by kernel_rfl) ?_
   dsimp only [pick, List.filterMap, List.getElem?_cons_zero, List.getElem?_cons_succ]
   (repeat (go_big_quiet_step (fail))); refine wpQuiet_nil ?_
   rintro _ ⟨nq, rfl⟩
   with_reducible refine part_hard ?_
   dsimp only [pick, List.filterMap, List.getElem?_cons_zero, List.getElem?_cons_succ]
   go_wp2_with (go_at_call 29; (with_reducible refine (HBG.out _ (by (repeat (first | with_reducible (first | exact Below.refl _ _ | refine bl_alloc ?_ _ | refine bl_drew ?_ | refine bl_drewN ?_ _ | refine bl_bx ?_ _ | exact BX.below _ | refine bl_set ?_ (by first | (exact Nat.le_refl _) | (simp; done) | (simp; omega)) _) | assumption)))).mono ?_); rintro e w1 ⟨gm, a, rfl, y1, y2, y3, y4, y5, y6, y7⟩; have Y1 := Lib.hid y1; have Y2 := Lib.hid y2; have Y3 := Lib.hid y3; have Y4 := Lib.hid y4; have Y5 := Lib.hid y5; have Y6 := Lib.hid y6; have Y7 := Lib.hid y7; clear y1 y2 y3 y4 y5 y6 y7)
   with_reducible refine segs_end ?_
   with_reducible refine part_reads ?_
   dsimp only [pick, List.filterMap, List.getElem?_cons_zero, List.getElem?_cons_succ]
   (repeat (go_big_quiet_step (fail))); refine wpQuiet_nil ?_
   rintro _ ⟨nq2, rfl⟩
   with_reducible refine part_nil ?_
   go_upto_region 10 with (fail)
   have HB1 : Hid (Ch (At q) w (w1.drewN nq2)) := ((Ch.of_below (S := At q) (bl_drewN (Below.refl _ _) nq)).trans Y7.out (fun b hb _ => hb)).trans (Ch.of_below (S := At q) (bl_drewN (Below.refl _ _) nq2)) (fun b hb _ => hb)
   obtain ⟨W1, hW1⟩ : ∃ W1, w1.drewN nq2 = W1 := ⟨_, rfl⟩
   have HX1 : Hid (CB W1 gm 39 (mqc (qm0 ca cb s) a) ∧ CB W1 a 106 (qocell0 q s ca (if ca then cb % 1099511627776 else 0)) ∧ CB W1 q 93 (qcells k.d k.p 2048 k.lines (fun i => if i = s then some a else bs i))) := by
    rw [← hW1]; exact ⟨Y4.out.drewN nq2, Y5.out.drewN nq2, Y6.out.drewN nq2⟩
   rw [hW1] at HB1 ⊢
   clear hW1
   have x1 : W1.cell? ⟨B.bn, 0, none⟩ = _ := (HB1.out.cells B.bn 0 l1 HNE.out.1).trans c1
   have x2 : W1.cell? ⟨B.bl, 0, none⟩ = _ := (HB1.out.cells B.bl 0 l3 HNE.out.2.2.1).trans c2
   have x3 : W1.cell? ⟨B.an, s, none⟩ = _ := (HB1.out.cells B.an s l2 HNE.out.2.1).trans hn
   have x4 : W1.cell? ⟨B.al, s, none⟩ = _ := (HB1.out.cells B.al s l4 HNE.out.2.2.2.1).trans hc
   have x5 : W1.frozen? ⟨B.an, s, none⟩ = false := (HB1.out.frozens B.an s l2 HNE.out.2.1).trans (HH.out.mem.ca |> fun h => by rw [HQB.out.1] at h; exact h.frozen s)
   have x6 : W1.frozen? ⟨B.al, s, none⟩ = false := (HB1.out.frozens B.al s l4 HNE.out.2.2.2.1).trans (HH.out.mem.cc |> fun h => by rw [HQB.out.1] at h; exact h.frozen s)
   have v1 := Nat.lt_of_lt_of_le l1 HB1.out.size
   have v2 := Nat.lt_of_lt_of_le l2 HB1.out.size
   have v3 := Nat.lt_of_lt_of_le l3 HB1.out.size
   have v4 := Nat.lt_of_lt_of_le l4 HB1.out.size
   have hbk := HH.out.mem.bk
   rw [HQB.out.1] at hbk
   have hd1 : B.al ≠ B.an := Ne.symm hbk.n6
   have hd2 : B.bl ≠ B.al := fun hx => by have h1 := hbk.kl; have h2 := hbk.kc; rw [hx] at h1; omega
   have hd3 : B.bl ≠ B.an := fun hx => by have h1 := hbk.kl; have h2 := hbk.ka; rw [hx] at h1; omega
   have hd4 : B.bn ≠ B.al := fun hx => by have h1 := hbk.kn; have h2 := hbk.kc; rw [hx] at h1; omega
   have hd5 : B.bn ≠ B.an := fun hx => by have h1 := hbk.kn; have h2 := hbk.ka; rw [hx] at h1; omega
   clear c1 c2 c3 hn hc l1 l2 l3 l4 l5 z0 z1 z2 hgl z9 zl
   have hn2c : (1 : Int) ≤ ((n2 : Nat) : Int) := by omega
   have hn2cp : ((n2 : Nat) : Int) ≤ ((cps : Nat) : Int) := by omega
   obtain ⟨A', hA'⟩ : ∃ A' : Option Addr, A' = if cps = 1 then some ⟨g, off, none⟩ else some ⟨g, off + 3, none⟩ := ⟨_, rfl⟩
   have HA' := Lib.hid hA'
   clear hA'
   go_cut [] from 49 to 60 (fun wx => NewRel B s gm (n2 - 1) (cps - 1) A' W1 wx)
   case first =>
    go_region_with (fail)
    all_goals rw [← HA'.out]
    all_goals go_wp2
    all_goals go_meet
    all_goals first | exact newRelA hd1 | exact newRelB hd1
   case rest =>
    obtain ⟨r1, r2, r3⟩ := hcut
    have R1 := Lib.hid r1
    have R2 := Lib.hid r2
    have R3 := Lib.hid r3
    clear r1 r2 r3 x1 x2 x3 x4 x5 x6 v1 v2 v3 v4
    have hM := HH.out.mem
    rw [HQB.out.1] at hM
    have hb1 : W1.heap[B.bm]? = w.heap[B.bm]? := HB1.out.block B.bm hM.cm_.lt HNE.out.2.2.2.2.1
    have hmc : CB wc B.bm 29 #[.slice Am ms.length cm] := (hM.cm_.keep hb1).keep (R3.out.block B.bm (hM.cm_.keep hb1).lt (fun hx => hx.elim hbk.n3 hbk.n2))
    have HMC := Lib.hid hmc
    have hSl : Sl 33 1 wc Am ms.length cm (gs.map mpV) := by
     refine hM.sl.keep (fun b hb => ?_)
     have e := hbk.am b hb
     have hbw := hM.sl.lt hb
     refine (R3.out.block b (Nat.lt_of_lt_of_le hbw HB1.out.size) (fun hx => hx.elim e.2.2.2.2 e.2.2.2.1)).trans (HB1.out.block b hbw (fun hx => ?_))
     have e1 := e.1
     have e2 := hM.qu.kq
     rw [HQB.out.2] at e2
     rw [show b = q from hx] at e1
     omega
    have HSL := Lib.hid hSl
    have m0 : wc.cell? ⟨B.bm, 0, none⟩ = some (.slice Am ms.length cm) := hmc.cell 0
    have mf := hmc.frozen 0
    have ml := hmc.lt
    have h7 : ms.length ≤ 7 := by have := HH.out.seven; omega
    clear hM hmc hSl hb1 hbk hd1 hd2 hd3 hd4 hd5
    go_upto_region 12 with (at_builtin; refine wpList_append_sl rfl (.tmp 61) (.tmp 63) 29 rfl 33 (.pointer none) 1 8 rfl (by omega) Tryz.underlying29 info_pM30 (by omega) Am ms.length cm (gs.map mpV) ⟨wc.heap.size, 0, none⟩ 1 1 [.pointer (some ⟨gm, 0, none⟩)] rfl rfl (HSL.out.keep (fun b hb => Below.heap_alloc _ _ _ (HSL.out.lt hb))) rfl (by omega) (cells_one17 wc 33 _) (by simp; rfl) (by omega) ?_; intro A4 c4 w4 HO4 HC4 HW4 HG4; have hbmA : ¬ OwnB Am B.bm := (fun hx => (HH.out.mem.bk |> fun h => (by rw [HQB.out.1] at h; exact (h.am _ hx).2.1 rfl))); have hm4 : CB w4 B.bm 29 #[.slice Am ms.length cm] := (HMC.out.below (bl_alloc (Below.refl _ _) _)).keep (HC4.out.block _ (HMC.out.below (bl_alloc (Below.refl _ _) _)).lt hbmA); have HM4 := Lib.hid hm4; have n0 : w4.cell? ⟨B.bm, 0, none⟩ = some (.slice Am ms.length cm) := hm4.cell 0; have nf := hm4.frozen 0; have nl := hm4.lt; clear hm4 hbmA)
    have hNEW := newFin HH.out hs HD.out HRL.out HA.out HN1.out hn2 hcpp hcp HA'.out HQB.out.1 HQB.out.2 Y1.out Y2.out Y3.out HX1.out.1 HX1.out.2.1 HX1.out.2.2 HB1.out ⟨R1.out, R2.out, R3.out⟩ HO4.out HC4.out HW4.out HM4.out
    obtain ⟨W5, hW5⟩ : ∃ W5, w4.setCell ⟨B.bm, 0, none⟩ (.slice A4 (ms.length + 1) c4) = W5 := ⟨_, rfl⟩
    rw [hW5] at hNEW ⊢
    clear hW5 n0 nf nl m0 mf ml
    obtain ⟨hN1, hN2⟩ := hNEW
    have HST := Lib.hid (fun (W : World) (hW : Below W5.heap.size W5 W) => HH.out.newT hs HRL.out HD.out (hN1.bl hW) (fun b hb => rolC_old hb) (hN2.trans (Ch.of_below (S := fun _ => False) hW) (fun _ hx _ => hx.elim)))
    rw [HQB.out.1] at HST
    have hT : T < 1000000 := by have := HH.out.tb; have := HH.out.bdl; omega
    have hnn : nowV (fun u => if u = s then some ms.length else now u) (gs ++ [gm]) s = .pointer (some ⟨gm, 0, none⟩) := by
     unfold nowV
     simp only [if_true, Option.map_some, ← HH.out.mem.lg, getD_last]
     rfl
    have u1 : W5.cell? ⟨B.bn, 0, none⟩ = some (.slice (some ⟨B.an, 0, none⟩) 3 3) := by have := hN1.cn.cell 0; rw [HQB.out.1] at this; exact this
    have u2 := CB.now3 (s := s) (f := nowV (fun u => if u = s then some ms.length else now u) (gs ++ [gm])) (a := .pointer none) (b := .pointer none) (c := .pointer none) hN1.ca hs
    rw [hnn, HQB.out.1] at u2
    have u3 : W5.cell? ⟨B.bt, 0, none⟩ = some (.int .i64 (T : Int)) := by have := hN1.ct.cell 0; rw [HQB.out.1] at this; exact this
    have v1 : B.bn < W5.heap.size := by have := hN1.cn.lt; rw [HQB.out.1] at this; exact this
    have v2 : B.an < W5.heap.size := by have := hN1.ca.lt; rw [HQB.out.1] at this; exact this
    have v3 : B.bt < W5.heap.size := by have := hN1.ct.lt; rw [HQB.out.1] at this; exact this
    have e1 : IntKind.i64.wrap ((T : Int) + 1) = ((T + 1 : Nat) : Int) := by rw [IntWalk.i64_in _ (by omega)]; omega
    obtain ⟨T1, hT1⟩ : ∃ T1, T + 1 = T1 := ⟨_, rfl⟩
    rw [hT1] at HST e1
    have HT1 := Lib.hid hT1
    clear hN1 hN2 hT hnn hT1
    refine ord_reads [0, 1, 2, 3, 4] [.h [5]] (by kernel_rfl) (fun _ _ d _ _ h => by cases d <;> exact h) (by kernel_rfl) ?_
    dsimp only [pick, List.filterMap, List.getElem?_cons_zero, List.getElem?_cons_succ]
    (repeat (go_big_quiet_step (fail))); refine wpQuiet_nil ?_
    rintro _ ⟨nq5, rfl⟩
    with_reducible refine part_hard ?_
    dsimp only [pick, List.filterMap, List.getElem?_cons_zero, List.getElem?_cons_succ]
    go_wp2_with (go_at_call 30; (with_reducible refine (HST.out _ (by (repeat (first | with_reducible (first | exact Below.refl _ _ | refine bl_alloc ?_ _ | refine bl_drew ?_ | refine bl_drewN ?_ _ | refine bl_bx ?_ _ | exact BX.below _ | refine bl_set ?_ (by first | (exact Nat.le_refl _) | (simp; done) | (simp; omega)) _) | assumption)))).mono ?_); rintro e w2 ⟨rfl, z1, z2, z3, z4, rl', now', ms', hx⟩; have HX := Lib.hid hx; have HMU := Lib.hid z4; clear hx z4)
    with_reducible refine segs_end ?_
    with_reducible refine part_nil ?_
    go_wp2
    exact bodyPost_ret (v := .bool true) (by simp [results, Tryz.results38, go_sem]) rfl ⟨rfl, .inr ⟨HMU.out, rl', now', ms', _, by rw [HT1.out]; exact HX.out⟩⟩
end
end Go.Proofs.YtaefkelaffijbaaGreatDoor
