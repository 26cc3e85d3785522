/- The law MwcasExact (merged). -/
import Derived.Test.YtjaohgnloddgfaaGreatDoorKmt
namespace Go.Proofs.YtjaohgnloddgfaaGreatDoor
open Go.RowKit
set_option linter.unusedVariables false
set_option linter.unusedSimpArgs false

section
variable {κ : Nat → Nat} {p d : Nat} {t : Nat → Nat} {L0 : Nat → Int} {B n0 : Nat} {wB w : World} {σ : PwS}
/-- A read is stepped while nothing else is in progress. -/
theorem BegS.rstep (h : BegS κ p d t L0 (fun _ => 0) B n0 wB [] [] w σ []) (hB : B ≤ 900000) (h0 : 0 < n0) {rb k : Nat} {r : RdS} (hK : κ rb = 1) (hn : n0 ≤ rb) (hC : CB w rb 130 (rdcells (.pointer (some ⟨p, 0, none⟩)) (.pointer (some ⟨t r.th, 0, none⟩)) r)) (hk : k < 8) (hoff : r.off = 8 * ((288 + k : Nat) : Int)) (hth : r.th < 8) (he : r.ended = false) (hr : r.err = 0) (hp : r.place ≤ 2) :
    Calls Tryz.prog 32 #[.pointer (some ⟨rb, 0, none⟩)] w fun e w' => ∃ σ' r', e = .returned (.bool r'.ended) ∧ BegS κ p d t L0 (fun _ => 0) (B + 1) n0 wB [] [] w' σ' [] ∧ CB w' rb 130 (rdcells (.pointer (some ⟨p, 0, none⟩)) (.pointer (some ⟨t r'.th, 0, none⟩)) r') ∧ r'.th = r.th ∧ r'.off = r.off ∧ r'.err = 0 ∧ r'.raw = (if r.place = 0 then L0 (288 + k) else r.raw) ∧ r'.place = r.place + 1 ∧ r'.place ≤ 3 ∧ (r'.ended = true ∨ r'.place ≤ 2) := by
  obtain ⟨N, xs, hI, hN⟩ := h.ex
  have hN2 : N < 1000000 := by omega
  have hM : M17 (288 + k) := by unfold M17; omega
  have hR := hI.rstep hN2 hM (by omega) hoff hth he hr hp
  have hK0 : κ rb ≠ 0 := by omega
  refine (rdStep (N := N) h.pm hK0 hC (fun c hc => by rw [h.cur] at hc; cases hc) hth (by rw [hoff]; omega) hI.on.good hN2 hp (fun _ => ?_)).mono ?_
  · rw [hoff, (hI.on.load_at (by omega) (hI.idle h.cur _ hM) 0).2]
    exact hI.hL _ hM
  · rintro e w' ⟨rfl, hP, hC2, hCh⟩
    have hT : ∀ b, κ b = 1 → b ≠ rb → ¬ (¬ κ b ≠ 0 ∨ b = rb) := fun b hb hne hx => by
      rcases hx with hx | hx
      · exact hx (by omega)
      · exact hne hx
    refine ⟨_, _, rfl, ⟨⟨N + 1, xs, hR.inv, by omega⟩, hR.ops.2.1.trans h.cur, ⟨by rw [hR.ops.2.2]; exact h.bz.len, fun i m es hi => by simp at hi, fun i j mi mj ei ej hi => by simp at hi, fun q hq => by rw [hR.ops.2.2]; exact h.bz.bt q hq⟩, hP, fun i m hi => by simp at hi, fun i m hi => by simp at hi, fun i j mi mj hi => by simp at hi, h.tab.ch hCh (hT 0 h.k0 (by omega)), h.k0, ⟨hCh.os.trans h.bl.os, hCh.tape.trans h.bl.tape, hCh.output.trans h.bl.output, Nat.le_trans h.bl.size hCh.size, fun b hb => ?_⟩, Nat.le_trans h.nl hCh.size, h.kb, rfl, rfl, by simp⟩, ?_, hR.th.1, hR.th.2.1, hR.th.2.2, hR.raw, hR.place.1.symm, hR.place.2, hR.ended⟩
    · exact (hCh.block b (Nat.lt_of_lt_of_le hb h.nl) (hT b (h.kb b hb) (by omega))).trans (h.bl.block b hb)
    · rw [hR.th.1]; exact hC2
/-- An operation that is stepped alone, i steps so far; B counts what was before. -/
def AloB (K : Nat → Prop) (p d : Nat) (t : Nat → Nat) (es : List Ent) (L0 : Nat → Int) (B a : Nat) (w0 : World) (i : Nat) (dn : Bool) (wr : World) : Prop :=
  ∃ (σ : PwS) (m : MaS) (N : Nat) (xs : List Int) (L : Nat → Int) (ord : List Nat), PMx K p d t 0 32 ((40 : Nat) * 64) wr σ ∧ Inv sumI (atW 0) 40 8 M17 N σ xs L ∧ Ls 40 M17 [.op es] L0 σ [m] i L ord ∧ m.kd = .op es ∧ m.blk = a ∧ m.done = dn ∧ N ≤ B + i ∧ gSum σ [a] + i ≤ 2304 ∧ Ch (fun b => ¬ K b) w0 wr ∧ σ.busy.length = 8 ∧ (dn = true → ∃ o, σ.ops a = some o ∧ o.ended = true ∧ o.err = 0 ∧ o.changed = m.ok)
end
section
variable {K : Nat → Prop} {p d a B : Nat} {t : Nat → Nat} {es : List Ent} {L0 : Nat → Int} {w0 wr : World} {i : Nat} {b : Bool}
theorem AloB.bound (h : AloB K p d t es L0 B a w0 i b wr) : i ≤ 2304 := by
  obtain ⟨σ, m, N, xs, L, ord, _, _, _, _, _, _, _, hg, _⟩ := h
  omega
theorem AloB.step (h : AloB K p d t es L0 B a w0 i false wr) (hB : B ≤ 900000) (hK0 : K 0) (hT : Tab w0) :
    Calls Tryz.prog 33 #[.pointer (some ⟨a, 0, none⟩)] wr fun r w' => ∃ b, r = .returned (.bool b) ∧ AloB K p d t es L0 B a w0 (i + 1) b w' := by
  have hib := h.bound
  obtain ⟨σ, m, N, xs, L, ord, hP, hI, hL, hk, hb, hd, hN, hg, hC, hbl, _⟩ := h
  have hi : ([m] : List MaS)[0]? = some m := rfl
  obtain ⟨o, q1, q2, q3, q4, q5, q6, q7⟩ := (hL.ma 0 m hi).op es hk
  rw [hb] at q1
  have hN2 : N < 1000000 := by omega
  obtain ⟨σ', b, xs', L', ord', o0, o', r1, r2, r3, r4, r5, r6, r7, r8, r9, r10⟩ := hL.oper hI reg17 hN2 hi hk hd
  have heo : o.ended = false := by rw [q5]; exact hd
  have hdec := hI.step_dec reg17 hN2 q1 heo (al := [a]) (by simp) (by simp) (by simp)
  rw [hb] at r1 r2 r4
  rw [r2] at hdec
  have hE : EnvOk 0 40 8 2304 σ := ⟨by omega, by omega, hbl, fun x ox hx => ⟨by have := (hI.ok x ox hx).l6; omega, fun e he => start17 ((hI.ok x ox hx).ent e he)⟩⟩
  have hT2 := hT.ch hC (fun h0 => h0 hK0)
  refine (opStep hP hK0 hT2 hI reg17 hN2 hE q1).mono ?_
  rintro r w' ⟨rfl, hP2, hC2⟩
  rw [r2] at hP2
  refine ⟨b, by rw [r2], σ', m.opd i b o'.changed, N + 1, xs', L', ord', hP2, r3, r10, ?_, ?_, ?_, by omega, ?_, hC.trans hC2 (fun _ hx _ => hx), ?_, fun hb1 => ⟨o', r4, r5.trans hb1, r6 hb1, ?_⟩⟩
  · show (m.now i).kd = _; rw [(m.now_same i).1]; exact hk
  · show (m.now i).blk = _; rw [(m.now_same i).2.1]; exact hb
  · rfl
  · have : gSum σ' [a] + 1 ≤ gSum σ [a] := hdec
    omega
  · rw [r8]; split
    · rw [List.length_set]; exact hbl
    · exact hbl
  · rw [hb1]; rfl
/-- When it has ended. -/
theorem AloB.ended (h : AloB K p d t es L0 B a w0 i true wr) : ∃ (σ : PwS) (N : Nat) (xs : List Int) (L : Nat → Int) (o : OpS), PMx K p d t 0 32 ((40 : Nat) * 64) wr σ ∧ Inv sumI (atW 0) 40 8 M17 N σ xs L ∧ σ.cur = none ∧ σ.ops a = some o ∧ o.ended = true ∧ o.err = 0 ∧ o.changed = satL L0 es ∧ L = (if satL L0 es then appL L0 es else L0) ∧ (∀ k, M17 k → xs[k]? = some (L k)) ∧ Ch (fun b => ¬ K b) w0 wr := by
  obtain ⟨σ, m, N, xs, L, ord, hP, hI, hL, hk, hb, hd, hN, hg, hC, hbl, hde⟩ := h
  have hi : ([m] : List MaS)[0]? = some m := rfl
  obtain ⟨o, e1, e2, e3, e4⟩ := hde rfl
  obtain ⟨q, hq, hop, _⟩ := hL.told hI hi hd
  have hord : ord = [0] := by
    have h1 : ord.length ≤ 1 := by
      have := List.Nodup.length_le_of_subset hL.nd (l₂ := [0]) (fun x hx => by have := hL.mem x hx; simp at this; simp [this])
      simpa using this
    cases ord with
    | nil => simp at hq
    | cons x l =>
      have hl : l = [] := List.eq_nil_of_length_eq_zero (by simpa using h1)
      subst hl
      have := hL.mem x (by simp)
      simp at this
      rw [this]
  subst hord
  have hq0 : q = 0 := by
    have := (List.getElem?_eq_some_iff.1 hq).1
    simp at this; exact this
  subst hq0
  have hcur := hL.quiet hI (fun j mj hj => by
    have hjl := (List.getElem?_eq_some_iff.1 hj).1
    have : j = 0 := by simp at hjl; exact hjl
    subst this
    have : mj = m := by simpa using hj.symm
    rw [this]; exact hd)
  refine ⟨σ, N, xs, L, o, hP, hI, hcur, e1, e2, e3, ?_, ?_, hI.idle hcur, hC⟩
  · rw [e4]; exact hop es hk
  · rw [hL.hL]; rfl
end
section
variable {κ : Nat → Nat} {p d : Nat} {t : Nat → Nat} {L0 : Nat → Int} {B n0 : Nat} {wB w w' : World} {σ : PwS}
/-- A new operation beside nothing. -/
theorem BegS.alone (h : BegS κ p d t L0 (fun _ => 0) B n0 wB [] [] w σ []) {a k th : Nat} {es : List Ent} {order : List Nat} (hk : idxB σ.busy = some k) (ha : w.heap.size ≤ a) (h1 : 1 ≤ es.length) (h6 : es.length ≤ 6) (e1 : ∀ e ∈ es, EntOk 40 M17 e) (e2 : ∀ i j, i < es.length → j < es.length → (es.getD i E0).off = (es.getD j E0).off → i = j) (hp : order.Perm (List.range es.length)) (hth : th < 8)
    (hP : PMx (fun b => κ b ≠ 0) p d t 0 32 ((40 : Nat) * 64) w' { σ.setOp a (newOp k th es order) with busy := σ.busy.set k true }) :
    AloB (fun b => κ b ≠ 0) p d t es L0 B a w' 0 false w' := by
  obtain ⟨N, xs, hI, hN⟩ := h.ex
  have hk8 : k < 8 := by have := (idxB_some hk).1; rw [h.bz.len] at this; exact this
  have hok : OpOk 8 40 M17 (newOp k th es order) := newOp_ok hth hk8 h1 h6 e1 e2 hp
  have hI2 := hI.addOp (bs := σ.busy.set k true) (h.pm.opNone ha) hok rfl rfl rfl rfl rfl
  refine ⟨_, ⟨.op es, a, ⟨0, 0, 0, 0, false, 0⟩, 0, 0, false, false, false, false, 0⟩, N, xs, L0, [], hP, hI2, ?_, rfl, rfl, rfl, by omega, ?_, Ch.refl _ _, by show (σ.busy.set k true).length = 8; rw [List.length_set]; exact h.bz.len, fun h => by cases h⟩
  · refine Ls.start h.cur rfl (fun i m h => ?_) (fun i j mi mj h1 h2 _ _ _ => ?_)
    · have hil := (List.getElem?_eq_some_iff.1 h).1
      have hi0 : i = 0 := by simp at hil; exact hil
      subst hi0
      have : m = _ := (Option.some.inj h).symm
      subst this
      refine ⟨rfl, rfl, fun es' he' => ⟨_, if_pos rfl, ?_, rfl, rfl⟩, fun k hk => by cases hk⟩
      injection he' with he'
    · have := (List.getElem?_eq_some_iff.1 h1).1
      have := (List.getElem?_eq_some_iff.1 h2).1
      simp at *
      omega
  · have := gSum_le hI2 (al := [a]) (by simp)
    omega
/-- A descriptor is free beside nothing. -/
theorem BegS.free0 (h : BegS κ p d t L0 (fun _ => 0) B n0 wB [] [] w σ []) : idxB σ.busy = some 0 := by
  rw [h.bz.free (fun i m hi => by simp at hi)]; exact idxB_8
end
/-- The exact entry of the law. -/
def exE (z : Int) : List Ent := [⟨2304, z, 9, true⟩]
theorem exE_ok {z : Int} (hz : 0 ≤ z ∧ z < 4611686018427387904) : ∀ e ∈ exE z, EntOk 40 M17 e := by
  intro e he
  rw [List.mem_singleton.1 he]
  exact ⟨⟨288, by unfold M17; omega, by omega, rfl⟩, hz, by show (0 : Int) ≤ 9 ∧ (9 : Int) < 1099511627776; omega⟩
theorem exE_nd (z : Int) : ∀ i j, i < (exE z).length → j < (exE z).length → ((exE z).getD i E0).off = ((exE z).getD j E0).off → i = j := by
  intro i j hi hj _
  have hi : i < 1 := hi
  have hj : j < 1 := hj
  omega
theorem exE_b {z : Int} (hz : 0 ≤ z ∧ z < 4611686018427387904) : entsB 0 32 40 (exE z) 1 = true := by
  unfold entsB
  rw [List.all_eq_true]
  intro q hq
  have hq' : q = 0 := by simpa using hq
  subst hq'
  unfold outB Ent.poss exE idxOff
  simp
  omega
theorem exE_sat (L : Nat → Int) (z : Int) : satL L (exE z) = decide (L 288 = z) := by
  unfold satL exE
  simp [wdE, Ent.sat]
  by_cases h : L 288 = z <;> simp [h]
theorem exE_app (L : Nat → Int) (z : Int) : appL L (exE z) 288 % 1099511627776 = 9 := by
  unfold appL
  have hf : (List.range (exE z).length).find? (fun q => wdE (exE z) q == 288) = some 0 := rfl
  rw [hf]
  dsimp only
  show (9 + ((L 288 / 1099511627776 + 1) % 4194304) * 1099511627776) % 1099511627776 = 9
  omega
end Go.Proofs.YtjaohgnloddgfaaGreatDoor

namespace Go.Proofs.YtjaohgnloddgfaaGreatDoor
open Go.RowKit
set_option linter.unusedVariables false
set_option linter.unusedSimpArgs false

/-- A read that is stepped alone: q steps so far. -/
def RdW (κ : Nat → Nat) (p d : Nat) (t : Nat → Nat) (L : Nat → Int) (n0 : Nat) (wB : World) (gr q : Nat) (dn : Bool) (wr : World) : Prop :=
  ∃ (σ : PwS) (r : RdS), BegS κ p d t L (fun _ => 0) (1000 + q) n0 wB [] [] wr σ [] ∧ CB wr gr 130 (rdcells (.pointer (some ⟨p, 0, none⟩)) (.pointer (some ⟨t r.th, 0, none⟩)) r) ∧ r.th < 8 ∧ r.off = 8 * ((288 + 0 : Nat) : Int) ∧ r.err = 0 ∧ r.place = q ∧ r.ended = dn ∧ q ≤ 3 ∧ (dn = false → q ≤ 2) ∧ (0 < q → r.raw = L 288) ∧ (dn = true → 0 < q)
section
variable {κ : Nat → Nat} {p d : Nat} {t : Nat → Nat} {L : Nat → Int} {n0 gr q : Nat} {wB wr w w' : World} {dn : Bool}
theorem RdW.bound (h : RdW κ p d t L n0 wB gr q dn wr) : q ≤ 3 := by
  obtain ⟨_, _, _, _, _, _, _, _, _, h, _⟩ := h
  exact h
theorem RdW.step (h : RdW κ p d t L n0 wB gr q false wr) (h0 : 0 < n0) (hK : κ gr = 1) (hn : n0 ≤ gr) :
    Calls Tryz.prog 32 #[.pointer (some ⟨gr, 0, none⟩)] wr fun e w' => ∃ b, e = .returned (.bool b) ∧ RdW κ p d t L n0 wB gr (q + 1) b w' := by
  obtain ⟨σ, r, hB, hC, h1, h2, h3, h4, h5, h6, h7, h8, _⟩ := h
  have hq2 := h7 rfl
  refine (hB.rstep (by omega) h0 hK hn hC (by omega) h2 h1 h5 h3 (by omega)).mono ?_
  rintro e w' ⟨σ', r', rfl, hB', hC', a1, a2, a3, a4, a5, a6, a7⟩
  refine ⟨r'.ended, rfl, σ', r', hB', hC', by omega, by omega, a3, by omega, rfl, by omega, fun hx => ?_, fun _ => ?_, fun _ => by omega⟩
  · rcases a7 with h | h
    · rw [h] at hx; cases hx
    · omega
  · rw [a4]
    split
    · rfl
    · exact h8 (by omega)
end
/-- Behind the change in between: the word, and what the read has read. -/
structure ExS (w0 : World) (p d : Nat) (t : Nat → Nat) (n0 gr : Nat) (v : Int) (bt : Bool) (wx : World) : Prop where
  ex : ∃ κ σ L B wB, BegS κ p d t L (fun _ => 0) B n0 wB [] [] wx σ [] ∧ B ≤ 20000 ∧ L 288 = v + (if bt then 1099511627776 else 0)
  bl : Below n0 w0 wx
  rd : ∃ pv tv r, CB wx gr 130 (rdcells pv tv r) ∧ r.ended = true ∧ r.raw = v
section
variable {κ : Nat → Nat} {p d : Nat} {t : Nat → Nat} {L : Nat → Int} {n0 gr q : Nat} {w0 wB wr w w' : World} {v : Int}
theorem ExS.still (h : RdW κ p d t L n0 wB gr q true wr) (hB : Below n0 w0 wB) (hv : L 288 = v) : ExS w0 p d t n0 gr v false wr := by
  obtain ⟨σ, r, h1, h2, h3, h4, h5, h6, h7, h8, h9, h10, h11⟩ := h
  refine ⟨⟨κ, σ, L, _, wB, h1, by omega, by simp [hv]⟩, ?_, _, _, r, h2, h7, by rw [h10 (h11 rfl), hv]⟩
  exact hB.trans h1.bl
/-- The call in between. -/
def exC (v : Int) : Int × Int × List (Int × Int × Int) := (0, 0, [(0, v, v)])
theorem exC_q {v : Int} (hv : 0 ≤ v ∧ v < 256) : qOf (exC v) = ⟨0, [⟨0, v, v⟩]⟩ := by
  have e : tdEs [(0, v, v)] = [⟨0, v, v⟩] := by
    unfold tdEs
    simp only [List.foldl_cons, List.foldl_nil]
    unfold tdStep inE
    simp
    omega
  unfold qOf exC
  rw [e]; rfl
theorem exC_w {v : Int} (hv : 0 ≤ v ∧ v < 256) : LcW [exC v] := by
  intro c hc
  rw [List.mem_singleton.1 hc]
  refine ⟨by show _ ∧ _; unfold exC; dsimp only; omega, by unfold exC; dsimp only; omega, fun e he => ?_⟩
  have he : e ∈ [((0 : Int), v, v)] := he
  rw [List.mem_singleton.1 he]
  dsimp only
  omega
theorem exC_v {w : World} {g1 g2 : Nat} {v : Int} (h1 : CB w g1 56 #[.int .i64 0, .int .u64 v, .int .u64 v]) (h2 : CB w g2 71 #[.int .i64 0, .int .i64 0, .slice (some ⟨g1, 0, none⟩) 1 1]) : LcV w (some ⟨g2, 0, none⟩) 1 1 [exC v] := by
  refine ⟨rfl, by omega, fun k hk => ?_⟩
  have hk0 : k = 0 := by omega
  subst hk0
  refine ⟨g2, 0, some ⟨g1, 0, none⟩, 1, 1, rfl, h2.lt, by omega, h2.cell 0, h2.cell 1, h2.cell 2, rfl, by omega, fun j hj => ?_⟩
  have hj0 : j = 0 := by omega
  subst hj0
  exact ⟨g1, 0, rfl, h1.lt, h1.cell 0, h1.cell 1, h1.cell 2⟩
theorem ExS.ran {κ0 : Nat → Nat} {As : Option Addr} {m : MaS} {B : Nat} {L2 : Nat → Int} (hv : 0 ≤ v ∧ v < 256) (hE : RunO κ0 wr p d t L B n0 wB ⟨0, [⟨0, v, v⟩]⟩ As m L2 w') (hB : B ≤ 10000) (hK : κ0 gr = 1) (hbl : Below n0 w0 wB) (hL : L 288 = v) {pv tv : Value} {r : RdS} (hC : CB wr gr 130 (rdcells pv tv r)) (he : r.ended = true) (hr : r.raw = v) : m.ok = true ∧ ExS w0 p d t n0 gr v true w' := by
  obtain ⟨κ, σ, h1, hKp⟩ := hE.nx
  have hL0 : gt0 (vsOf L) 0 = v := by
    rw [vsOf_get (by omega)]
    show L 288 % 1099511627776 = v
    omega
  have hok : m.ok = true := by
    rw [hE.op (by simp)]
    unfold rSat
    simp [hL0]
  have hvs := hE.vs
  rw [hok, if_pos rfl] at hvs
  have hL2v : gt0 (vsOf L2) 0 = v := by
    rw [hvs]
    unfold rApply
    have : rSat (vsOf L) [⟨0, v, v⟩] = true := by unfold rSat; simp [hL0]
    rw [this, if_pos rfl]
    unfold rSet gt0
    rw [List.getD_eq_getElem?_getD]
    simp only [List.foldl_cons, List.foldl_nil]
    rw [List.getElem?_set_self (by rw [length_vsOf]; omega)]; rfl
  rw [vsOf_get (by omega)] at hL2v
  have hct := hE.ct 0 (by omega) 0 (by show L 288 / 1099511627776 = ((0 : Nat) : Int); omega) (by omega)
  have hctn : ctN m.ok ⟨0, [⟨0, v, v⟩]⟩ 0 = 1 := by rw [hok]; rfl
  rw [hctn] at hct
  refine ⟨hok, ⟨⟨κ, σ, L2, _, wB, h1, by omega, ?_⟩, hbl.trans h1.bl, pv, tv, r, hC.keep (hKp gr hK).2, he, hr⟩⟩
  have hr2 := hE.hL 288 (by unfold M17; omega)
  have hx : L2 (288 + 0) = L2 288 := rfl
  rw [hx] at hL2v hct
  simp only [if_true]
  omega
end
end Go.Proofs.YtjaohgnloddgfaaGreatDoor

namespace Go.Proofs.YtjaohgnloddgfaaGreatDoor
open Go.RowKit
set_option linter.unusedVariables false
set_option linter.unusedSimpArgs false

theorem ExS.below {w0 w w' : World} {p d n0 gr : Nat} {t : Nat → Nat} {v : Int} {bt : Bool} (h : ExS w0 p d t n0 gr v bt w) (hB : Below w.heap.size w w') : ExS w0 p d t n0 gr v bt w' := by
  obtain ⟨κ, σ, L, B, wB, h1, h2, h3⟩ := h.ex
  obtain ⟨pv, tv, r, h4, h5, h6⟩ := h.rd
  exact ⟨⟨κ, σ, L, B, wB, h1.below hB, h2, h3⟩, h.bl.trans (hB.mono h1.nl), pv, tv, r, h4.below hB, h5, h6⟩
/-- What is behind the last loop. -/
def ExF (w0 : World) (a n0 : Nat) (v z : Int) (bt : Bool) (wr : World) : Prop := Below n0 w0 wr
set_option maxRecDepth 100000 in
set_option maxHeartbeats 32000000 in
theorem walkExact (w : World) (hT : Tab w) (z : Int) (hz : 0 ≤ z ∧ z < 18446744073709551616) (bt ot : Bool) :
    Calls Tryz.prog 6 #[.int .u64 z, .bool bt, .bool ot] w fun e w' => e = .returned (.bool true) ∧ Below w.heap.size w w' := by
  have HT := Lib.hid hT
  have HTL : Hid (0 < w.heap.size) := hT.1
  have HVA : Hid (∀ (W : World) g, IB .u64 23 W g [z] → Calls Tryz.prog 14 #[.slice (some ⟨g, 0, none⟩) 1 1] W fun e w' => ∃ g, e = .returned (.slice (some ⟨g, 0, none⟩) 8 8) ∧ IB .u64 23 w' g (vals17 [z]) ∧ W.heap.size ≤ g ∧ Below W.heap.size W w') := fun W g h => values17 W (some ⟨g, 0, none⟩) 1 1 [z] rfl (by omega) h.rd0 (fun x hx => by rw [List.mem_singleton.1 hx]; exact hz)
  have hvr := vals17_range [z]
  have hvl := length_vals17 [z]
  obtain ⟨vs, hvs⟩ : ∃ vs, vals17 [z] = vs := ⟨_, rfl⟩
  rw [hvs] at HVA hvr hvl
  have HVR := Lib.hid hvr
  have HVL := Lib.hid hvl
  have HSU : Hid (∀ (W : World) g, IB .u64 23 W g vs → Calls Tryz.prog 13 #[.slice (some ⟨g, 0, none⟩) 8 8] W (SetPost W vs)) := fun W g hI => setup17 W _ 8 _ HVL.out hI.rd0 HVR.out
  have HAW : Hid (∀ W, Below w.heap.size w W → Calls Tryz.prog 15 #[] W fun e w' => e = .returned (.bool true) ∧ Below W.heap.size W w') := fun W hW => awake17 W (HT.out.ch (Ch.of_below (S := fun _ => False) hW) (fun h => h))
  have HO0 : Hid (∀ W, Calls Tryz.prog 26 #[.int .i64 0] W fun e w' => e = .returned (.int .u64 2304) ∧ W = w') := fun W => off17 W 0 (by omega)
  clear hT hz hvs hvr hvl
  go_enter Tryz.func6, Tryz.ntmps6
  go_upto_region 2 with (go_at_call 14; refine (HVA.out _ _ (IB.new _ _)).mono ?_; rintro e w' ⟨g0, rfl, hI, hg, hb⟩; have HI := Lib.hid hI; have HG0 := Lib.hid hg; have HBA := Lib.hid (bl_alloc (Below.refl w.heap.size w) _ |>.trans (hb.mono (by simp))); obtain ⟨x0, rfl⟩ := bx_of hb; clear hI hg hb)
  have HBA2 : Hid (Below w.heap.size w x0.w) := HBA.out
  have HBW0 : Hid (Below w.heap.size w x0.w) := HBA.out
  have HIA : Hid (IB .u64 23 x0.w g0 vs) := HI.out
  obtain ⟨W0, hW0⟩ : ∃ W0, x0.w = W0 := ⟨_, rfl⟩
  rw [hW0] at HBA2 HBW0 HIA ⊢
  have HI0 := Lib.hid HIA.out
  clear hW0 HBA HI HG0
  go_upto_region 5 with (first
    | (go_at_call 13; refine (HSU.out _ _ HIA.out).mono ?_; rintro e w1 ⟨p, d, t, S, rfl, hP, hcl, hb⟩; have HP := Lib.hid hP; have HCL := Lib.hid hcl; obtain ⟨x, rfl⟩ := bx_of hb; clear hP hcl hb)
    | (go_at_call 15; refine (HAW.out _ (bl_bx HBA2.out x)).mono ?_; rintro e w2 ⟨rfl, hb⟩; obtain ⟨y, rfl⟩ := bx_of hb; have HBE0 := Lib.hid ((BegS.start HVR.out HP.out HCL.out x.below (HT.out.ch (Ch.of_below (S := fun _ => False) HBA2.out) (fun h => h))).below y.below); clear hb))
  have HIY : Hid (IB .u64 23 y.w g0 vs) := (HIA.out.keep (x.below.block g0 HIA.out.lt)).keep (y.below.block g0 (x.lt_size HIA.out.lt))
  have HG0L : Hid (g0 < W0.heap.size) := HIA.out.lt
  have HBY : Hid (Below w.heap.size w y.w) := bl_bx (bl_bx HBA2.out x) y
  have HB0 : Hid (Below W0.heap.size W0 y.w) := bl_bx x.below y
  have HN0 : Hid (w.heap.size ≤ W0.heap.size) := HBA2.out.size
  obtain ⟨n0, hn0⟩ : ∃ n0, W0.heap.size = n0 := ⟨_, rfl⟩
  rw [hn0] at HBE0 HG0L HB0 HN0
  obtain ⟨WW, hWW⟩ : ∃ WW, y.w = WW := ⟨_, rfl⟩
  rw [hWW] at HBE0 HIY HBY HB0 ⊢
  have HOUT := Lib.hid (out17 0 (by omega))
  have HP2 := Lib.hid HBE0.out.pm
  go_upto_region 6 with (first
    | (go_at_call 26; refine (HO0.out _).mono ?_; rintro e w' ⟨rfl, rfl⟩)
    | (go_at_call 18; refine (pwRead (n := 40) HP2.out (by omega) (by omega) 1 (by omega) 2304 (by omega) HOUT.out).mono ?_; rintro e w3 ⟨gr, rfl, hC, hgr, hB3⟩; have HCR := Lib.hid hC; have HGR := Lib.hid hgr; have HB3 := Lib.hid hB3; clear hC hgr hB3))
  have HKR : ∃ κ1 : Nat → Nat, κ1 gr = 1 ∧ RdW κ1 p d t (L17 vs) n0 w3 gr 0 false w3 ∧ Below n0 W0 w3 := by
    have hlt : ∀ b, kap0 n0 b ≠ 0 → b < WW.heap.size := fun b hb => HBE0.out.pm.lk (K := fun b => kap0 n0 b ≠ 0) hb
    have hgr3 := HCR.out.lt
    have hp := HBE0.out.poke (κ' := fun b => if b = gr then 1 else kap0 n0 b) (T := fun _ => False) (Ch.of_below HB3.out) (fun _ _ hx => hx.elim) (fun hx => hx) (fun b hb => if_neg (by have := hlt b hb; have := HGR.out; omega)) (fun b hb => by
      by_cases hx : b = gr
      · right; rw [hx]; exact ⟨HGR.out, hgr3⟩
      · left
        have hb : (if b = gr then 1 else kap0 n0 b) ≠ 0 := hb
        rwa [if_neg hx] at hb)
    refine ⟨fun b => if b = gr then 1 else kap0 n0 b, if_pos rfl, ⟨_, ⟨1, 2304, 0, 0, false, 0⟩, hp, HCR.out, by show (1 : Nat) < 8; omega, rfl, rfl, rfl, rfl, by omega, fun _ => by omega, fun h => by omega, fun h => by cases h⟩, HB0.out.trans (HB3.out.mono HBE0.out.nl)⟩
  obtain ⟨κ1, hk1, hRW, hB03⟩ := HKR
  have HRW := Lib.hid hRW
  have HK1 := Lib.hid hk1
  have HB03 := Lib.hid hB03
  have HGRN : Hid (n0 ≤ gr) := Nat.le_trans HBE0.out.nl HGR.out
  have HN00 : Hid (0 < n0) := by show _ < _; have := HTL.out; have := HN0.out; omega
  have HL0 : Hid (L17 vs 288 = gt0 vs 0 ∧ 0 ≤ gt0 vs 0 ∧ gt0 vs 0 < 256) := ⟨L17_get vs (j := 0) (by omega), HVR.out 0⟩
  have HI3 : Hid (IB .u64 23 w3 g0 vs) := HIY.out.keep (HB3.out.block g0 HIY.out.lt)
  have HBW3 : Hid (Below w.heap.size w w3) := HBY.out.trans (HB3.out.mono HBY.out.size)
  clear hk1 hRW hB03 hn0 hWW HBE0 HCR HGR HB3 HIY HBY HB0 HP HCL HIA HBA2 HSU HAW HVA HVR HOUT HP2
  go_wp2
  go_loopw [11, 37, 38, 39, 40, 41, 42, 43, 44, 45] (fun i _ _ _ _ _ _ _ _ _ wr => ∃ q : Nat, i = .int .i64 q ∧ RdW κ1 p d t (L17 vs) n0 w3 gr q false wr) (fun i _ _ _ _ _ _ _ _ _ _ => 20000 - (intOf i).toNat)
  case atStart => exact ⟨0, rfl, HRW.out⟩
  case round =>
    clear HRW
    obtain ⟨q, rfl, hR⟩ := hrel
    have hqb := hR.bound
    have hlt : (q : Int) < 20000 := by omega
    have HST := Lib.hid (hR.step HN00.out HK1.out HGRN.out)
    clear hR
    go_wp2_with fail
    refine HST.out.mono ?_
    rintro e w4 ⟨b, rfl, hR4⟩
    have HR4 := Lib.hid hR4
    clear hR4 HST
    cases b
    · go_wp2
      exact ⟨⟨q + 1, by go_num, HR4.out⟩, by simp [intOf]; omega⟩
    · have hb4 : Below n0 w3 w4 := by obtain ⟨_, _, hx, _⟩ := HR4.out; exact hx.bl
      have hnl4 : n0 ≤ w4.heap.size := by obtain ⟨_, _, hx, _⟩ := HR4.out; exact hx.nl
      have HI4 := Lib.hid (HI3.out.keep (hb4.block g0 HG0L.out))
      have HNL4 := Lib.hid hnl4
      have HB4 := Lib.hid (HB03.out.trans hb4)
      obtain ⟨v, hv⟩ : ∃ v, gt0 vs 0 = v := ⟨_, rfl⟩
      have HVV := Lib.hid hv
      have hl8 : 0 < vs.length := by have := HVL.out; omega
      have y0 : w4.cell? ⟨g0, 0, none⟩ = some (.int .u64 v) := by
        rw [HI4.out.cell (i := 0) hl8, ← hv, gt0_eq hl8]
      have HV := Lib.hid HL0.out
      rw [hv] at HV
      have hg4 : g0 < w4.heap.size := HI4.out.lt
      clear hb4 hnl4 hv HL0 hl8
      go_upto_if 46 with (fail)
      go_cut [12, 13] from 20 (fun _ _ wx => ExS W0 p d t n0 gr v bt wx)
      case first =>
        cases bt with
        | false =>
          go_wp2
          go_meet
          case rel => exact ExS.still HR4.out HB03.out HV.out.1
        | true =>
          go_upto_region 10 with (fail)
          have HRN : Hid (∀ m : Nat, Calls Tryz.prog 23 #[.pointer (some ⟨p, 0, none⟩), .slice (some ⟨w4.heap.size + 1, 0, none⟩) 1 1, .slice none 0 0, .bool true] (((w4.drewN m).alloc (.cells #[.int .i64 0, .int .u64 v, .int .u64 v] 56)).alloc (.cells #[.int .i64 0, .int .i64 0, .slice (some ⟨w4.heap.size, 0, none⟩) 1 1] 71)) fun e w' => ∃ g gS oS cA, e = .returned (.tuple #[.slice (some ⟨gS, oS, none⟩) 1 cA, .bool true]) ∧ gS < w'.heap.size ∧ w'.cell? ⟨gS, oS, none⟩ = some (.pointer (some ⟨g, 0, none⟩)) ∧ g < w'.heap.size ∧ w'.cell? ⟨g, 8, none⟩ = some (.bool true) ∧ ExS W0 p d t n0 gr v true w') := by
            intro m
            obtain ⟨σ, r, hB, hC, h1, h2, h3, h4, h5, h6, h7, h8, h9⟩ := HR4.out
            obtain ⟨W1, hW1⟩ : ∃ W1, (w4.drewN m).alloc (.cells #[.int .i64 0, .int .u64 v, .int .u64 v] 56) = W1 := ⟨_, rfl⟩
            obtain ⟨W2, hW2⟩ : ∃ W2, W1.alloc (.cells #[.int .i64 0, .int .i64 0, .slice (some ⟨w4.heap.size, 0, none⟩) 1 1] 71) = W2 := ⟨_, rfl⟩
            rw [hW1, hW2]
            have s1 : W1.heap.size = w4.heap.size + 1 := by rw [← hW1]; simp
            have s2 : W2.heap.size = w4.heap.size + 2 := by rw [← hW2]; simp [s1]
            have c1 : CB W1 w4.heap.size 56 #[.int .i64 0, .int .u64 v, .int .u64 v] := by rw [← hW1]; exact CB.new (w4.drewN m) _ _
            have c2 : CB W2 (w4.heap.size + 1) 71 #[.int .i64 0, .int .i64 0, .slice (some ⟨w4.heap.size, 0, none⟩) 1 1] := by rw [← hW2, ← s1]; exact CB.new W1 _ _
            have c1' : CB W2 w4.heap.size 56 #[.int .i64 0, .int .u64 v, .int .u64 v] := by rw [← hW2]; exact c1.alloc _
            have hb1 : Below w4.heap.size w4 W1 := by rw [← hW1]; exact bl_alloc (bl_drewN (Below.refl _ _) _) _
            have hb2 : Below w4.heap.size w4 W2 := by rw [← hW2]; exact bl_alloc hb1 _
            have hlt : ∀ b, κ1 b ≠ 0 → b < w4.heap.size := fun b hb => hB.pm.lk (K := fun b => κ1 b ≠ 0) hb
            have hp := hB.poke (κ' := fun b => if b = w4.heap.size ∨ b = w4.heap.size + 1 then 1 else κ1 b) (T := fun _ => False) (Ch.of_below hb2) (fun _ _ hx => hx.elim) (fun hx => hx) (fun b hb => if_neg (by have := hlt b hb; omega)) (fun b hb => by
              by_cases hx : b = w4.heap.size ∨ b = w4.heap.size + 1
              · right; omega
              · left
                have hb : (if b = w4.heap.size ∨ b = w4.heap.size + 1 then 1 else κ1 b) ≠ 0 := hb
                rwa [if_neg hx] at hb)
            refine (run17K (by omega) hp (some ⟨w4.heap.size + 1, 0, none⟩) 1 1 [exC v] (by omega) (fun W' _ hk => exC_v (c1'.keep (hk _ (if_pos (.inl rfl)))) (c2.keep (hk _ (if_pos (.inr rfl))))) (exC_w HV.out.2) none 0 0 [] rfl (by omega) (fun _ _ => .inl rfl) (by simp) true).mono ?_
            intro e w' hrn
            obtain ⟨As, cA, m2, L2, rfl, hE⟩ := hrn.one
            rw [exC_q HV.out.2] at hE
            obtain ⟨gS, oS, g, A, c, rfl, q1, q2, q3, q4⟩ := hE.sn
            have hrl : gr < w4.heap.size := hC.lt
            obtain ⟨hok, hX⟩ := ExS.ran (gr := gr) (w0 := W0) HV.out.2 hE (by omega) ((if_neg (by omega)).trans HK1.out) (HB4.out.trans (hb2.mono HNL4.out)) HV.out.1 (hC.below hb2) h5 (by rw [h8 (by omega), HV.out.1])
            have k8 : w'.cell? ⟨g, 8, none⟩ = some (.bool m2.ok) := (q3.cell 8).trans rfl
            rw [hok] at k8
            exact ⟨g, gS, oS, cA, rfl, q1, q2, q3.lt, k8, hX⟩
          clear HR4
          refine ord_reads [] [.p [0, 1, 2, 4, 5], .q [3, 6, 7], .h [8, 9, 10, 11, 12], .q [13, 14, 15, 16]] (by kernel_rfl) (fun _ _ d _ _ h => by cases d <;> exact h) (by kernel_rfl) ?_
          dsimp only [pick, List.filterMap, List.getElem?_cons_zero, List.getElem?_cons_succ]
          refine wpQuiet_nil ?_
          rintro _ ⟨nq, rfl⟩
          with_reducible refine part_pure ?_
          dsimp only [pick, List.filterMap, List.getElem?_cons_zero, List.getElem?_cons_succ]
          (repeat (first | (refine pure_ex rfl ?_; apply Exists.intro; apply And.intro; (intro w; go_simp; rfl); simp only [Act.put, List.setIfInBounds_toArray, List.set_cons_succ, List.set_cons_zero]) | (refine pure_skip rfl ?_; simp only [Act.put, List.setIfInBounds_toArray, List.set_cons_succ, List.set_cons_zero]))); refine pure_nil ?_
          with_reducible refine part_reads ?_
          dsimp only [pick, List.filterMap, List.getElem?_cons_zero, List.getElem?_cons_succ]
          (repeat (go_big_quiet_step (fail))); refine wpQuiet_nil ?_
          rintro _ ⟨nq2, rfl⟩
          with_reducible refine part_hard ?_
          dsimp only [pick, List.filterMap, List.getElem?_cons_zero, List.getElem?_cons_succ]
          go_wp2_with fail
          refine (HRN.out (nq + nq2)).mono ?_
          rintro e w5 ⟨g, gS, oS, cA, rfl, q1, q2, q3, q4, hX⟩
          have HX := Lib.hid hX
          clear hX
          go_wp2
          with_reducible refine segs_end ?_
          with_reducible refine part_reads ?_
          dsimp only [pick, List.filterMap, List.getElem?_cons_zero, List.getElem?_cons_succ]
          (repeat (go_big_quiet_step (fail))); refine wpQuiet_nil ?_
          rintro _ ⟨nq3, rfl⟩
          with_reducible refine part_nil ?_
          go_wp2
          go_meet
          case rel => exact HX.out.below (bl_drewN (Below.refl _ _) _)
      case rest =>
        have HS := Lib.hid hcut
        clear hcut HI4 HNL4 HB4 HI3 y0 hg4 HR4
        have HWD : Hid (Calls Tryz.prog 20 #[.pointer (some ⟨gr, 0, none⟩)] wc fun e w' => e = .returned (.int .u64 v) ∧ Below wc.heap.size wc w') := by
          obtain ⟨pv, tv, r, h1, h2, h3⟩ := HS.out.rd
          have := rdWord wc h1
          rw [h2, h3] at this
          exact this
        go_upto_if 76 with (go_at_call 20; refine HWD.out.mono ?_; rintro e w6 ⟨rfl, hb⟩; obtain ⟨x6, rfl⟩ := bx_of hb; clear hb)
        have e1 : IntKind.u64.wrap (v + 2199023255552) = v + 2199023255552 := IntWalk.u64_in _ (by have := HV.out.2; omega)
        go_cut [14] from 20 (fun z wx => z = .int .u64 (v + if ot then 2199023255552 else 0) ∧ ExS W0 p d t n0 gr v bt wx)
        case first =>
          cases ot with
          | false =>
            go_wp2
            go_meet
            case rel => exact ⟨by simp, HS.out.below x6.below⟩
          | true =>
            go_wp2
            go_meet
            case rel => exact ⟨rfl, HS.out.below x6.below⟩
        case rest =>
          clear HS HWD e1
          obtain ⟨rfl, hS⟩ := hcut
          have HS := Lib.hid hS
          obtain ⟨κ, σ, L, B, wB, hB, hB2, hL⟩ := hS.ex
          obtain ⟨zr, hzr⟩ : ∃ zr, v + (if ot then 2199023255552 else 0) = zr := ⟨_, rfl⟩
          have HZR := Lib.hid hzr
          have hzb : 0 ≤ zr ∧ zr < 4611686018427387904 := by have := HV.out.2; cases ot <;> simp at hzr <;> omega
          have HZB := Lib.hid hzb
          rw [hzr]
          have HLL := Lib.hid hL
          have HBG : Hid (∀ W, Below wc.heap.size wc W → CB W wc.heap.size 33 (ecells (exE zr)).toArray → Calls Tryz.prog 17 #[.pointer (some ⟨p, 0, none⟩), .int .i64 2, .slice (some ⟨wc.heap.size, 0, none⟩) 1 1] W fun e w' => ∃ a, e = .returned (.tuple #[.pointer (some ⟨a, 0, none⟩), .int .i64 0]) ∧ AloB (fun b => κ b ≠ 0) p d t (exE zr) L B a w' 0 false w' ∧ Tab w' ∧ Below n0 W0 w' ∧ n0 ≤ w'.heap.size) := by
            intro W hW hC
            obtain ⟨N, xs, hI, hN⟩ := hB.ex
            have hBW := hB.below hW
            refine (pwBegin (n := 40) hBW.pm (by omega) (by omega) 2 (by omega) (hI.on.err 2) wc.heap.size 0 1 1 0 (exE zr) rfl (by omega) (by omega) (EsV.of (slEnts hC rfl (by omega)) rfl) (fun e he => by
              rw [List.mem_singleton.1 he]
              dsimp only
              have := HZB.out
              omega) (exE_b HZB.out) hBW.free0 (by rw [hBW.bz.len]; omega)).mono ?_
            rintro e w' ⟨a, order, rfl, ha, hp, hP2, hC2⟩
            have hk : ∀ b, b < n0 → ¬ ¬ (κ b ≠ 0) := fun b hb hx => hx (by rw [hBW.kb b hb]; omega)
            exact ⟨a, rfl, hBW.alone hBW.free0 ha (by show (1 : Nat) ≤ 1; omega) (by show (1 : Nat) ≤ 6; omega) (exE_ok HZB.out) (exE_nd zr) hp (by omega) hP2, hBW.tab.ch hC2 (fun hx => hx (by rw [hBW.k0]; omega)), (HS.out.bl.trans (hW.mono hB.nl)).trans (hC2.to_below hBW.nl (fun b hb => Nat.le_of_not_lt (fun hx => hk b hx hb))), Nat.le_trans hBW.nl hC2.size⟩
          have HK0 : Hid (κ 0 ≠ 0 ∧ (∀ b, b < n0 → κ b ≠ 0) ∧ B ≤ 20000) := ⟨by rw [hB.k0]; omega, fun b hb => by rw [hB.kb b hb]; omega, hB2⟩
          clear hS hB hB2 hL hzr hzb HS
          go_upto_region 17 with (first
            | (go_at_call 26; refine (HO0.out _).mono ?_; rintro e w' ⟨rfl, rfl⟩)
            | (go_at_call 17; refine (HBG.out _ (bl_alloc (Below.refl _ _) _) (CB.new _ _ _)).mono ?_; rintro e w2 ⟨a, rfl, hA, hT2, hbl, hnl⟩; have HA0 := Lib.hid hA; have HTW := Lib.hid hT2; have HBL := Lib.hid hbl; have HNL := Lib.hid hnl; clear hA hT2 hbl hnl))
          clear HBG
          go_wp2
          go_loopw [17, 90, 91, 92, 93, 94, 95, 96, 97, 98] (fun i _ _ _ _ _ _ _ _ _ wr => ∃ q : Nat, i = .int .i64 q ∧ AloB (fun b => κ b ≠ 0) p d t (exE zr) L B a w2 q false wr) (fun i _ _ _ _ _ _ _ _ _ _ => 20000 - (intOf i).toNat)
          case atStart => exact ⟨0, rfl, HA0.out⟩
          case round =>
            clear HA0
            obtain ⟨i, rfl, hA⟩ := hrel
            have hib := hA.bound
            have hlt2 : (i : Int) < 20000 := by omega
            have HST := Lib.hid (hA.step (by have := HK0.out.2.2; omega) HK0.out.1 HTW.out)
            clear hA
            go_wp2_with fail
            refine HST.out.mono ?_
            rintro e w8 ⟨b, rfl, hA8⟩
            have HA8 := Lib.hid hA8
            clear hA8 HST
            cases b
            · go_wp2
              exact ⟨⟨i + 1, by go_num, HA8.out⟩, by simp [intOf]; omega⟩
            · obtain ⟨σ, N, xs, L3, o, hP, hI, hcur, ho, he, h0, hch, hL3, hx, hC⟩ := HA8.out.ended
              have hon := hI.on
              obtain ⟨okb, hok⟩ : ∃ okb, satL L (exE zr) = okb := ⟨_, rfl⟩
              rw [hok] at hch hL3
              rw [exE_sat] at hok
              have hbl8 : Below n0 W0 w8 := HBL.out.trans (hC.to_below HNL.out (fun b hb => Nat.le_of_not_lt (fun hx => hb (HK0.out.2.1 b hx))))
              have HFD := Lib.hid (found17 hP hon (fun j hj => hx _ (by unfold M17; omega)) (fun j hj => hI.hL _ (by unfold M17; omega)))
              have HF0 : Hid (gt0 (vsOf L3) 0 = if okb then 9 else v) := by
                show _ = _
                rw [vsOf_get (by omega), hL3]
                show (if okb = true then appL L (exE zr) else L) 288 % 1099511627776 = _
                cases okb with
                | true => rw [if_pos rfl, if_pos rfl]; exact exE_app L zr
                | false =>
                  rw [if_neg (by simp), if_neg (by simp), HLL.out]
                  have := HV.out.2
                  split <;> omega
              obtain ⟨role, bb, hPM, hK0⟩ := hP
              have hOM := hPM.op a o ho
              have HEN : Hid (∀ W, Below w8.heap.size w8 W → Calls Tryz.prog 21 #[.pointer (some ⟨a, 0, none⟩)] W fun e w' => e = .returned (.bool true) ∧ Below W.heap.size W w') := fun W hW => by
                have := opEnded (hOM.keep (w' := W) (fun b hb hr => hr) (fun b hb _ => hW.block b hb))
                rwa [he] at this
              have HER : Hid (∀ W, Below w8.heap.size w8 W → Calls Tryz.prog 34 #[.pointer (some ⟨a, 0, none⟩)] W fun e w' => e = .returned (.int .i64 0) ∧ Below W.heap.size W w') := fun W hW => by
                have := opErr (hOM.keep (w' := W) (fun b hb hr => hr) (fun b hb _ => hW.block b hb))
                rwa [h0] at this
              have HOK : Hid (∀ W, Below w8.heap.size w8 W → Calls Tryz.prog 22 #[.pointer (some ⟨a, 0, none⟩)] W fun e w' => e = .returned (.bool okb) ∧ Below W.heap.size W w') := fun W hW => by
                have := opOK (hOM.keep (w' := W) (fun b hb hr => hr) (fun b hb _ => hW.block b hb))
                rw [he, h0, hch] at this
                simpa using this
              have HOKB : Hid (okb = (!bt && !ot)) := by
                show _ = _
                rw [← hok, HLL.out, ← HZR.out]
                have := HV.out.2
                cases bt <;> cases ot <;> simp <;> omega
              have HI8 := Lib.hid (HI0.out.keep (hbl8.block g0 HG0L.out))
              have hl8 : 0 < vs.length := by have := HVL.out; omega
              have y0 : w8.cell? ⟨g0, 0, none⟩ = some (.int .u64 v) := by
                have hv := HVV.out
                rw [HI8.out.cell (i := 0) hl8, ← hv, gt0_eq hl8]
              have hg8 : g0 < w8.heap.size := HI8.out.lt
              have HB8 : Hid (Below w.heap.size w w8) := HBW0.out.trans (hbl8.mono HN0.out)
              clear hPM hK0 hOM hI hcur ho he h0 hch hL3 hx hC hon HA8 hok hbl8 hl8 HBL HNL HTW HLL HBW3 HBW0 HB03 HVV HI8
              obtain ⟨l0, hl0⟩ : ∃ l0, gt0 (vsOf L3) 0 = l0 := ⟨_, rfl⟩
              have HL3 := Lib.hid hl0
              rw [hl0] at HF0
              have HLN : Hid ((vsOf L3).length = 8) := length_vsOf
              clear hl0
              go_upto_region 23 with (go_at_call 29; refine HFD.out.mono ?_; rintro e w9 ⟨A9, c9, rfl, hS9, hb9, hO9⟩; have HS9 := Lib.hid hS9; obtain ⟨g9, o9, hA9⟩ := own_some hS9 (by omega); subst hA9; obtain ⟨y9, rfl⟩ := bx_of hb9; have k0 : y9.w.cell? ⟨g9, o9, none⟩ = some (.int .u64 l0) := (slw hS9 0 (by have := HLN.out; omega)).trans (by rw [HL3.out]); have kl := hS9.lt (b := g9) (by simp [OwnB]); clear hS9 hb9 hO9)
              have y9c : y9.w.cell? ⟨g0, 0, none⟩ = some (.int .u64 v) := (y9.cell _ _ hg8).trans y0
              have hg9 : g0 < y9.w.heap.size := y9.lt_size hg8
              clear y0 hg8 HFD
              have hkb := HOKB.out
              have hf0 := HF0.out
              clear HOKB HF0
              cases bt with
              | false =>
                cases ot with
                | false =>
                  obtain rfl : okb = true := hkb
                  obtain rfl : l0 = 9 := hf0
                  refine wp_region_bx (by kernel_rfl) (by kernel_rfl) ?_
                  (repeat (go_big_quiet_step (first | (go_at_call 21; exact bx_call (HEN.out _ (by (repeat (first | with_reducible exact Below.refl _ _ | with_reducible refine bl_alloc ?_ _ | with_reducible refine bl_drew ?_ | with_reducible refine bl_drewN ?_ _ | with_reducible refine bl_bx ?_ _ | with_reducible exact BX.below _ | with_reducible refine bl_set ?_ (by first | (exact Nat.le_refl _) | (simp; done) | (simp; omega)) _ | assumption))))) | (go_at_call 34; exact bx_call (HER.out _ (by (repeat (first | with_reducible exact Below.refl _ _ | with_reducible refine bl_alloc ?_ _ | with_reducible refine bl_drew ?_ | with_reducible refine bl_drewN ?_ _ | with_reducible refine bl_bx ?_ _ | with_reducible exact BX.below _ | with_reducible refine bl_set ?_ (by first | (exact Nat.le_refl _) | (simp; done) | (simp; omega)) _ | assumption))))) | (go_at_call 22; exact bx_call (HOK.out _ (by (repeat (first | with_reducible exact Below.refl _ _ | with_reducible refine bl_alloc ?_ _ | with_reducible refine bl_drew ?_ | with_reducible refine bl_drewN ?_ _ | with_reducible refine bl_bx ?_ _ | with_reducible exact BX.below _ | with_reducible refine bl_set ?_ (by first | (exact Nat.le_refl _) | (simp; done) | (simp; omega)) _ | assumption))))))))
                  refine wpQuiet_nil ?_
                  rintro _ ⟨x9, rfl⟩
                  go_wp2
                  exact bodyPost_ret (v := .bool true) (by simp [results, Tryz.results6, go_sem]) rfl ⟨rfl, bl_bx (bl_bx HB8.out y9) x9⟩
                | true =>
                  obtain rfl : okb = false := hkb
                  obtain rfl : l0 = v := hf0
                  by_cases hv9 : l0 = 9
                  · subst hv9
                    refine wp_region_bx (by kernel_rfl) (by kernel_rfl) ?_
                    (repeat (go_big_quiet_step (first | (go_at_call 21; exact bx_call (HEN.out _ (by (repeat (first | with_reducible exact Below.refl _ _ | with_reducible refine bl_alloc ?_ _ | with_reducible refine bl_drew ?_ | with_reducible refine bl_drewN ?_ _ | with_reducible refine bl_bx ?_ _ | with_reducible exact BX.below _ | with_reducible refine bl_set ?_ (by first | (exact Nat.le_refl _) | (simp; done) | (simp; omega)) _ | assumption))))) | (go_at_call 34; exact bx_call (HER.out _ (by (repeat (first | with_reducible exact Below.refl _ _ | with_reducible refine bl_alloc ?_ _ | with_reducible refine bl_drew ?_ | with_reducible refine bl_drewN ?_ _ | with_reducible refine bl_bx ?_ _ | with_reducible exact BX.below _ | with_reducible refine bl_set ?_ (by first | (exact Nat.le_refl _) | (simp; done) | (simp; omega)) _ | assumption))))) | (go_at_call 22; exact bx_call (HOK.out _ (by (repeat (first | with_reducible exact Below.refl _ _ | with_reducible refine bl_alloc ?_ _ | with_reducible refine bl_drew ?_ | with_reducible refine bl_drewN ?_ _ | with_reducible refine bl_bx ?_ _ | with_reducible exact BX.below _ | with_reducible refine bl_set ?_ (by first | (exact Nat.le_refl _) | (simp; done) | (simp; omega)) _ | assumption))))))))
                    refine wpQuiet_nil ?_
                    rintro _ ⟨x9, rfl⟩
                    go_wp2
                    exact bodyPost_ret (v := .bool true) (by simp [results, Tryz.results6, go_sem]) rfl ⟨rfl, bl_bx (bl_bx HB8.out y9) x9⟩
                  · have h91 : (l0 == (9 : Int)) = false := by simpa using hv9
                    have h92 : decide (l0 = 9) = false := by simpa using hv9
                    have h93 := Lib.hid hv9
                    clear hv9
                    refine wp_region_bx (by kernel_rfl) (by kernel_rfl) ?_
                    (repeat (go_big_quiet_step (first | (go_at_call 21; exact bx_call (HEN.out _ (by (repeat (first | with_reducible exact Below.refl _ _ | with_reducible refine bl_alloc ?_ _ | with_reducible refine bl_drew ?_ | with_reducible refine bl_drewN ?_ _ | with_reducible refine bl_bx ?_ _ | with_reducible exact BX.below _ | with_reducible refine bl_set ?_ (by first | (exact Nat.le_refl _) | (simp; done) | (simp; omega)) _ | assumption))))) | (go_at_call 34; exact bx_call (HER.out _ (by (repeat (first | with_reducible exact Below.refl _ _ | with_reducible refine bl_alloc ?_ _ | with_reducible refine bl_drew ?_ | with_reducible refine bl_drewN ?_ _ | with_reducible refine bl_bx ?_ _ | with_reducible exact BX.below _ | with_reducible refine bl_set ?_ (by first | (exact Nat.le_refl _) | (simp; done) | (simp; omega)) _ | assumption))))) | (go_at_call 22; exact bx_call (HOK.out _ (by (repeat (first | with_reducible exact Below.refl _ _ | with_reducible refine bl_alloc ?_ _ | with_reducible refine bl_drew ?_ | with_reducible refine bl_drewN ?_ _ | with_reducible refine bl_bx ?_ _ | with_reducible exact BX.below _ | with_reducible refine bl_set ?_ (by first | (exact Nat.le_refl _) | (simp; done) | (simp; omega)) _ | assumption))))))))
                    refine wpQuiet_nil ?_
                    rintro _ ⟨x9, rfl⟩
                    go_wp2
                    exact bodyPost_ret (v := .bool true) (by simp [results, Tryz.results6, go_sem]) rfl ⟨rfl, bl_bx (bl_bx HB8.out y9) x9⟩
              | true =>
                cases ot with
                | false =>
                  obtain rfl : okb = false := hkb
                  obtain rfl : l0 = v := hf0
                  by_cases hv9 : l0 = 9
                  · subst hv9
                    refine wp_region_bx (by kernel_rfl) (by kernel_rfl) ?_
                    (repeat (go_big_quiet_step (first | (go_at_call 21; exact bx_call (HEN.out _ (by (repeat (first | with_reducible exact Below.refl _ _ | with_reducible refine bl_alloc ?_ _ | with_reducible refine bl_drew ?_ | with_reducible refine bl_drewN ?_ _ | with_reducible refine bl_bx ?_ _ | with_reducible exact BX.below _ | with_reducible refine bl_set ?_ (by first | (exact Nat.le_refl _) | (simp; done) | (simp; omega)) _ | assumption))))) | (go_at_call 34; exact bx_call (HER.out _ (by (repeat (first | with_reducible exact Below.refl _ _ | with_reducible refine bl_alloc ?_ _ | with_reducible refine bl_drew ?_ | with_reducible refine bl_drewN ?_ _ | with_reducible refine bl_bx ?_ _ | with_reducible exact BX.below _ | with_reducible refine bl_set ?_ (by first | (exact Nat.le_refl _) | (simp; done) | (simp; omega)) _ | assumption))))) | (go_at_call 22; exact bx_call (HOK.out _ (by (repeat (first | with_reducible exact Below.refl _ _ | with_reducible refine bl_alloc ?_ _ | with_reducible refine bl_drew ?_ | with_reducible refine bl_drewN ?_ _ | with_reducible refine bl_bx ?_ _ | with_reducible exact BX.below _ | with_reducible refine bl_set ?_ (by first | (exact Nat.le_refl _) | (simp; done) | (simp; omega)) _ | assumption))))))))
                    refine wpQuiet_nil ?_
                    rintro _ ⟨x9, rfl⟩
                    go_wp2
                    exact bodyPost_ret (v := .bool true) (by simp [results, Tryz.results6, go_sem]) rfl ⟨rfl, bl_bx (bl_bx HB8.out y9) x9⟩
                  · have h91 : (l0 == (9 : Int)) = false := by simpa using hv9
                    have h92 : decide (l0 = 9) = false := by simpa using hv9
                    have h93 := Lib.hid hv9
                    clear hv9
                    refine wp_region_bx (by kernel_rfl) (by kernel_rfl) ?_
                    (repeat (go_big_quiet_step (first | (go_at_call 21; exact bx_call (HEN.out _ (by (repeat (first | with_reducible exact Below.refl _ _ | with_reducible refine bl_alloc ?_ _ | with_reducible refine bl_drew ?_ | with_reducible refine bl_drewN ?_ _ | with_reducible refine bl_bx ?_ _ | with_reducible exact BX.below _ | with_reducible refine bl_set ?_ (by first | (exact Nat.le_refl _) | (simp; done) | (simp; omega)) _ | assumption))))) | (go_at_call 34; exact bx_call (HER.out _ (by (repeat (first | with_reducible exact Below.refl _ _ | with_reducible refine bl_alloc ?_ _ | with_reducible refine bl_drew ?_ | with_reducible refine bl_drewN ?_ _ | with_reducible refine bl_bx ?_ _ | with_reducible exact BX.below _ | with_reducible refine bl_set ?_ (by first | (exact Nat.le_refl _) | (simp; done) | (simp; omega)) _ | assumption))))) | (go_at_call 22; exact bx_call (HOK.out _ (by (repeat (first | with_reducible exact Below.refl _ _ | with_reducible refine bl_alloc ?_ _ | with_reducible refine bl_drew ?_ | with_reducible refine bl_drewN ?_ _ | with_reducible refine bl_bx ?_ _ | with_reducible exact BX.below _ | with_reducible refine bl_set ?_ (by first | (exact Nat.le_refl _) | (simp; done) | (simp; omega)) _ | assumption))))))))
                    refine wpQuiet_nil ?_
                    rintro _ ⟨x9, rfl⟩
                    go_wp2
                    exact bodyPost_ret (v := .bool true) (by simp [results, Tryz.results6, go_sem]) rfl ⟨rfl, bl_bx (bl_bx HB8.out y9) x9⟩
                | true =>
                  obtain rfl : okb = false := hkb
                  obtain rfl : l0 = v := hf0
                  by_cases hv9 : l0 = 9
                  · subst hv9
                    refine wp_region_bx (by kernel_rfl) (by kernel_rfl) ?_
                    (repeat (go_big_quiet_step (first | (go_at_call 21; exact bx_call (HEN.out _ (by (repeat (first | with_reducible exact Below.refl _ _ | with_reducible refine bl_alloc ?_ _ | with_reducible refine bl_drew ?_ | with_reducible refine bl_drewN ?_ _ | with_reducible refine bl_bx ?_ _ | with_reducible exact BX.below _ | with_reducible refine bl_set ?_ (by first | (exact Nat.le_refl _) | (simp; done) | (simp; omega)) _ | assumption))))) | (go_at_call 34; exact bx_call (HER.out _ (by (repeat (first | with_reducible exact Below.refl _ _ | with_reducible refine bl_alloc ?_ _ | with_reducible refine bl_drew ?_ | with_reducible refine bl_drewN ?_ _ | with_reducible refine bl_bx ?_ _ | with_reducible exact BX.below _ | with_reducible refine bl_set ?_ (by first | (exact Nat.le_refl _) | (simp; done) | (simp; omega)) _ | assumption))))) | (go_at_call 22; exact bx_call (HOK.out _ (by (repeat (first | with_reducible exact Below.refl _ _ | with_reducible refine bl_alloc ?_ _ | with_reducible refine bl_drew ?_ | with_reducible refine bl_drewN ?_ _ | with_reducible refine bl_bx ?_ _ | with_reducible exact BX.below _ | with_reducible refine bl_set ?_ (by first | (exact Nat.le_refl _) | (simp; done) | (simp; omega)) _ | assumption))))))))
                    refine wpQuiet_nil ?_
                    rintro _ ⟨x9, rfl⟩
                    go_wp2
                    exact bodyPost_ret (v := .bool true) (by simp [results, Tryz.results6, go_sem]) rfl ⟨rfl, bl_bx (bl_bx HB8.out y9) x9⟩
                  · have h91 : (l0 == (9 : Int)) = false := by simpa using hv9
                    have h92 : decide (l0 = 9) = false := by simpa using hv9
                    have h93 := Lib.hid hv9
                    clear hv9
                    refine wp_region_bx (by kernel_rfl) (by kernel_rfl) ?_
                    (repeat (go_big_quiet_step (first | (go_at_call 21; exact bx_call (HEN.out _ (by (repeat (first | with_reducible exact Below.refl _ _ | with_reducible refine bl_alloc ?_ _ | with_reducible refine bl_drew ?_ | with_reducible refine bl_drewN ?_ _ | with_reducible refine bl_bx ?_ _ | with_reducible exact BX.below _ | with_reducible refine bl_set ?_ (by first | (exact Nat.le_refl _) | (simp; done) | (simp; omega)) _ | assumption))))) | (go_at_call 34; exact bx_call (HER.out _ (by (repeat (first | with_reducible exact Below.refl _ _ | with_reducible refine bl_alloc ?_ _ | with_reducible refine bl_drew ?_ | with_reducible refine bl_drewN ?_ _ | with_reducible refine bl_bx ?_ _ | with_reducible exact BX.below _ | with_reducible refine bl_set ?_ (by first | (exact Nat.le_refl _) | (simp; done) | (simp; omega)) _ | assumption))))) | (go_at_call 22; exact bx_call (HOK.out _ (by (repeat (first | with_reducible exact Below.refl _ _ | with_reducible refine bl_alloc ?_ _ | with_reducible refine bl_drew ?_ | with_reducible refine bl_drewN ?_ _ | with_reducible refine bl_bx ?_ _ | with_reducible exact BX.below _ | with_reducible refine bl_set ?_ (by first | (exact Nat.le_refl _) | (simp; done) | (simp; omega)) _ | assumption))))))))
                    refine wpQuiet_nil ?_
                    rintro _ ⟨x9, rfl⟩
                    go_wp2
                    exact bodyPost_ret (v := .bool true) (by simp [results, Tryz.results6, go_sem]) rfl ⟨rfl, bl_bx (bl_bx HB8.out y9) x9⟩
end Go.Proofs.YtjaohgnloddgfaaGreatDoor
