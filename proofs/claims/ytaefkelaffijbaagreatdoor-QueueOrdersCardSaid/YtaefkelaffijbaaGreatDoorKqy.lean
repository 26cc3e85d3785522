/- The law QueueOrders (merged). -/
import Derived.Test.YtaefkelaffijbaaGreatDoorKqu
namespace Go.Proofs.YtaefkelaffijbaaGreatDoor
open Go.RowKit
set_option linter.unusedVariables false
set_option linter.unusedSimpArgs false
/-- What a call that is over has returned. -/
def QPh.ve : QPh → Int × Int
  | .fin v e => (v, e)
  | _ => (0, 1)
/-- The value that a call has taken out; that it has put in. -/
def qOut (m : QM) : Option Int := if m.ins = false ∧ m.ph.ve.2 = 0 then some m.ph.ve.1 else none
def qIn (m : QM) : Option Int := if m.ins = true ∧ m.ph.ve.2 = 0 then some m.val else none
section
variable {P W T : Nat} {q0 : List Int} {cs : List (Bool × Int × Nat)} {ms : List QM} {ord : List Nat} {σ : PwS} {L : Nat → Int}
theorem QLs.fifoAt (h : QLs W P q0 σ ms T L ord) (hall : ∀ (i : Nat) (m : QM), ms[i]? = some m → m.ph.over = true) : ∀ p, p ≤ ord.length →
    q0 ++ (ord.take p).filterMap (fun i => qIn (ms.getD i QM0)) = (ord.take p).filterMap (fun i => qOut (ms.getD i QM0)) ++ qSt P ms q0 (ord.take p) := by
  intro p
  induction p with
  | zero => intro _; simp [qSt]
  | succ p ih =>
    intro hp
    have hpl : p < ord.length := by omega
    have hts : ord.take (p + 1) = ord.take p ++ [ord[p]] := by rw [List.take_succ_eq_append_getElem hpl]
    have hg : ord[p]? = some ord[p] := List.getElem?_eq_getElem hpl
    have hil := h.mem _ (List.getElem_mem hpl)
    have hi : ms[ord[p]]? = some (ms[ord[p]]'hil) := List.getElem?_eq_getElem hil
    have hf := h.fin hall hg hi
    have ih := ih (by omega)
    rw [hts, qSt_snoc, List.filterMap_append, List.filterMap_append, getD_of hi, ← List.append_assoc, ih]
    generalize qSt P ms q0 (ord.take p) = Q at hf ⊢
    simp only [List.filterMap_cons, List.filterMap_nil, getD_of hi]
    generalize ms[ord[p]]'hil = m at hf ⊢
    unfold qIn qOut
    rw [hf]
    cases hins : m.ins with
    | true =>
      by_cases hc : P ≤ Q.length
      · simp [qApp, QPh.ve, hc]
      · simp [qApp, QPh.ve, hc]
    | false =>
      cases Q with
      | nil => simp [qApp, QPh.ve]
      | cons x Q => simp [qApp, QPh.ve]
theorem fm_ms {β : Type} (ms : List QM) (f : QM → Option β) : (List.range ms.length).filterMap (fun i => f (ms.getD i QM0)) = ms.filterMap f := by
  have : ms = (List.range ms.length).map (fun i => ms.getD i QM0) := by
    apply List.ext_getElem
    · simp
    · intro i h1 h2; simp [List.getD_eq_getElem?_getD, h1]
  conv => rhs; rw [this]
  rw [List.filterMap_map]; rfl
/-- What was put in is what was taken out and what is there. -/
theorem RunOk.fifo (h : RunOk P q0 cs ms ord) : q0 ++ ord.filterMap (fun i => qIn (ms.getD i QM0)) = ord.filterMap (fun i => qOut (ms.getD i QM0)) ++ qSt P ms q0 ord := by
  obtain ⟨σ, T, L, lf, now, g1, _, _, g4, _⟩ := h
  have := g1.fifoAt g4 ord.length (Nat.le_refl _)
  rwa [List.take_length] at this
theorem RunOk.counts (h : RunOk P q0 cs ms ord) (v : Int) : q0.count v + (ms.filterMap qIn).count v = (ms.filterMap qOut).count v + (qSt P ms q0 ord).count v := by
  have h1 := congrArg (List.count v) h.fifo
  rw [List.count_append, List.count_append, (h.permR.filterMap _).count_eq, (h.permR.filterMap (fun i => qOut (ms.getD i QM0))).count_eq, fm_ms ms qIn, fm_ms ms qOut] at h1
  exact h1
/-- The calls of one thread take effect in their order. -/
theorem RunOk.thr (h : RunOk P q0 cs ms ord) (t : Nat) : ord.filter (fun i => (ms.getD i QM0).th == t) = (List.range ms.length).filter (fun i => (ms.getD i QM0).th == t) := by
  have hp := h.permR
  obtain ⟨σ, T, L, lf, now, g1, g2, _, g4, _⟩ := h
  refine List.Perm.eq_of_pairwise (le := fun a b => a < b) (fun a b _ _ h1 h2 => by omega) ?_ (List.pairwise_lt_range.filter _) (hp.filter _)
  have hpw : ord.Pairwise (fun a b => (ms.getD a QM0).th = (ms.getD b QM0).th → a < b) := by
    rw [List.pairwise_iff_getElem]
    intro p p' h1 h2 hpp hth
    have e1 : ord[p]? = some ord[p] := List.getElem?_eq_getElem h1
    have l1 := g1.mem _ (List.getElem_mem h1)
    have l2 := g1.mem _ (List.getElem_mem h2)
    have hne : ord[p] ≠ ord[p'] := fun he => by
      have := (List.getElem_inj g1.nd (i := p) (j := p') (h₀ := h1) (h₁ := h2)).1 he
      omega
    rcases Nat.lt_or_gt_of_ne hne with hlt | hgt
    · exact hlt
    · exfalso
      have hk : ms[ord[p']]? = some (ms[ord[p']]'l2) := List.getElem?_eq_getElem l2
      have hi : ms[ord[p]]? = some (ms[ord[p]]'l1) := List.getElem?_eq_getElem l1
      rw [getD_of hi, getD_of hk] at hth
      have ho := g2.ord _ _ _ _ hgt hk hi hth.symm
      have := g1.rt p _ _ _ _ e1 hi hk ho.1 ho.2
      obtain ⟨r, hr⟩ := List.getElem?_of_mem this
      have hrl : r < p := by have := (List.getElem?_eq_some_iff.1 hr).1; simp at this; omega
      rw [List.getElem?_take, if_pos hrl] at hr
      obtain ⟨r1, r2⟩ := List.getElem?_eq_some_iff.1 hr
      have := (List.getElem_inj g1.nd (i := r) (j := p') (h₀ := r1) (h₁ := h2)).1 r2
      omega
  refine List.Pairwise.imp_of_mem (fun {a b} ha hb hab => ?_) (hpw.filter _)
  have ha' := (List.mem_filter.1 ha).2
  have hb' := (List.mem_filter.1 hb).2
  simp only [beq_iff_eq] at ha' hb'
  exact hab (by rw [ha', hb'])
theorem fm_congr {α β : Type} {f g : α → Option β} : ∀ {l : List α}, (∀ x ∈ l, f x = g x) → l.filterMap f = l.filterMap g
  | [], _ => rfl
  | x :: l, h => by rw [List.filterMap_cons, List.filterMap_cons, h x (by simp), fm_congr (l := l) fun y hy => h y (by simp [hy])]
theorem fm_filter {α β : Type} (l : List α) (p : α → Bool) (f : α → Option β) (h : ∀ x, p x = false → f x = none) : (l.filter p).filterMap f = l.filterMap f := by
  induction l with
  | nil => rfl
  | cons x l ih =>
    rw [List.filter_cons]
    split
    · rw [List.filterMap_cons, List.filterMap_cons, ih]
    · rename_i hx
      rw [ih, List.filterMap_cons, h x (by simpa using hx)]
/-- Four values of one thread. -/
theorem RunOk.four (h : RunOk P [] cs ms ord) {vs : List Int} (h0 : lfOf cs 0 = vs.map (fun v => (true, v))) (h1 : ∀ c ∈ lfOf cs 1, c.1 = false) (h2 : lfOf cs 2 = []) (hP : vs.length < P) : ms.filterMap qOut ++ qSt P ms [] ord = vs := by
  have hf := h.fifo
  have hthr := h.thr
  have hperm := h.permR
  have h' := h
  obtain ⟨σ, T, L, lf, now, g1, g2, g3, g4, _⟩ := h
  have hin : ∀ t, t < 3 → inTh ms t = lfOf cs t := fun t ht => by have := g2.seq t ht; rw [g3 t ht, List.append_nil] at this; exact this
  have hmem : ∀ m ∈ ms, (m.ins, m.val) ∈ lfOf cs m.th ∧ m.th < 3 := fun m hm => by
    obtain ⟨i, hi⟩ := List.mem_iff_getElem?.1 hm
    have hl := (g2.thr i m hi).1
    rw [← hin _ hl]
    exact ⟨List.mem_map.2 ⟨m, List.mem_filter.2 ⟨hm, by simp⟩, rfl⟩, hl⟩
  have hth : ∀ m ∈ ms, (m.th = 0 ∧ m.ins = true) ∨ (m.th = 1 ∧ m.ins = false) := fun m hm => by
    obtain ⟨a1, a2⟩ := hmem m hm
    have : m.th = 0 ∨ m.th = 1 ∨ m.th = 2 := by omega
    rcases this with e | e | e
    · rw [e, h0] at a1
      obtain ⟨v, _, e2⟩ := List.mem_map.1 a1
      injection e2 with e2 e3
      exact .inl ⟨e, e2.symm⟩
    · rw [e] at a1; exact .inr ⟨e, h1 _ a1⟩
    · rw [e, h2] at a1; cases a1
  have hd : ∀ i, i < ms.length → ms.getD i QM0 ∈ ms := fun i hi => by
    rw [List.getD_eq_getElem?_getD, List.getElem?_eq_getElem hi]; exact List.getElem_mem hi
  have hth0 : ∀ i, ((ms.getD i QM0).th = 0 ∧ (ms.getD i QM0).ins = true) ∨ ((ms.getD i QM0).th = 1 ∧ (ms.getD i QM0).ins = false) ∨ ms.getD i QM0 = QM0 := fun i => by
    by_cases hi : i < ms.length
    · rcases hth _ (hd i hi) with e | e
      · exact .inl e
      · exact .inr (.inl e)
    · refine .inr (.inr ?_)
      rw [List.getD_eq_getElem?_getD, List.getElem?_eq_none (by omega)]; rfl
  have eO : ord.filterMap (fun i => qOut (ms.getD i QM0)) = ms.filterMap qOut := by
    have hz : ∀ i, ((ms.getD i QM0).th == 1) = false → qOut (ms.getD i QM0) = none := fun i hi => by
      rcases hth0 i with ⟨e, e2⟩ | ⟨e, e2⟩ | e
      · unfold qOut; rw [e2]; simp
      · rw [e] at hi; cases hi
      · rw [e]; rfl
    rw [← fm_filter _ _ _ hz, hthr 1, fm_filter _ _ _ hz, fm_ms]
  have eI : ord.filterMap (fun i => qIn (ms.getD i QM0)) = ms.filterMap qIn := by
    have hz : ∀ i, ((ms.getD i QM0).th == 0) = false → qIn (ms.getD i QM0) = none := fun i hi => by
      rcases hth0 i with ⟨e, e2⟩ | ⟨e, e2⟩ | e
      · rw [e] at hi; cases hi
      · unfold qIn; rw [e2]; simp
      · rw [e]; rfl
    rw [← fm_filter _ _ _ hz, hthr 0, fm_filter _ _ _ hz, fm_ms]
  have e0 : (ms.filter fun m => m.th == 0).map (fun m => m.val) = vs := by
    have := congrArg (List.map Prod.snd) ((hin 0 (by omega)).trans h0)
    unfold inTh at this
    rw [List.map_map, List.map_map] at this
    simpa [Function.comp_def] using this
  have hlen : (ms.filterMap qIn).length ≤ vs.length := by
    have hz : ∀ m ∈ ms, (m.th == 0) = false → qIn m = none := fun m hm hi => by
      rcases hth m hm with ⟨e, e2⟩ | ⟨e, e2⟩
      · rw [e] at hi; cases hi
      · unfold qIn; rw [e2]; simp
    have hle : ∀ l : List QM, (∀ m ∈ l, m ∈ ms) → (l.filterMap qIn).length ≤ (l.filter fun m => m.th == 0).length := by
      intro l
      induction l with
      | nil => intro _; simp
      | cons m l ih =>
        intro hl
        have := ih (fun x hx => hl x (by simp [hx]))
        rw [List.filterMap_cons, List.filter_cons]
        by_cases ht : (m.th == 0) = true
        · rw [if_pos ht]
          cases qIn m <;> simp <;> omega
        · rw [if_neg ht, hz m (hl m (by simp)) (by simpa using ht)]
          exact this
    have h9 := hle ms (fun _ h => h)
    have h10 : (ms.filter fun m => m.th == 0).length = vs.length := by have := congrArg List.length e0; simpa using this
    omega
  have hall : ∀ m ∈ ms, m.ins = true → qIn m = some m.val := fun m hm hins => by
    obtain ⟨i, hi⟩ := List.mem_iff_getElem?.1 hm
    have hmo : i ∈ ord := hperm.mem_iff.2 (by rw [List.mem_range]; exact (List.getElem?_eq_some_iff.1 hi).1)
    obtain ⟨p, hp⟩ := List.getElem?_of_mem hmo
    have hpl := (List.getElem?_eq_some_iff.1 hp).1
    have hfp := g1.fifoAt g4 p (by omega)
    have hq : (qSt P ms [] (ord.take p)).length < P := by
      have l1 := congrArg List.length hfp
      simp only [List.nil_append, List.length_append] at l1
      have l2 : ((ord.take p).filterMap (fun i => qIn (ms.getD i QM0))).length ≤ (ord.filterMap (fun i => qIn (ms.getD i QM0))).length := ((List.take_sublist p ord).filterMap _).length_le
      rw [eI] at l2
      omega
    have hf := g1.fin g4 hp hi
    unfold qIn
    rw [hf, hins]
    simp [qApp, QPh.ve, Nat.not_le.2 hq]
  have eV : ms.filterMap qIn = vs := by
    have hz : ∀ m ∈ ms, (m.th == 0) = false → qIn m = none := fun m hm hi => by
      rcases hth m hm with ⟨e, e2⟩ | ⟨e, e2⟩
      · rw [e] at hi; cases hi
      · unfold qIn; rw [e2]; simp
    have hle : ∀ l : List QM, (∀ m ∈ l, m ∈ ms) → l.filterMap qIn = (l.filter fun m => m.th == 0).map (fun m => m.val) := by
      intro l
      induction l with
      | nil => intro _; rfl
      | cons m l ih =>
        intro hl
        have ih := ih (fun x hx => hl x (by simp [hx]))
        have hm := hl m (by simp)
        rw [List.filterMap_cons, List.filter_cons]
        rcases hth m hm with ⟨e, e2⟩ | ⟨e, e2⟩
        · rw [hall m hm e2, if_pos (by rw [e]; rfl), ih]; rfl
        · have : (m.th == 0) = false := by rw [e]; rfl
          rw [hz m hm this, if_neg (by rw [this]; simp), ih]
    rw [hle ms (fun _ h => h), e0]
  rw [eI, eO, eV] at hf
  rw [← hf]; rfl
end
/-- The calls of thread 0. -/
def cs4 (j : Nat) : List (Bool × Int × Int) := (List.range j).map fun (i : Nat) => (true, 10 + (i : Int), 0)
theorem length_cs4 (j : Nat) : (cs4 j).length = j := by simp [cs4]
theorem cs4_succ (j : Nat) : cs4 (j + 1) = cs4 j ++ [(true, 10 + (j : Int), 0)] := by simp [cs4, List.range_succ]
/-- A slice of calls that was made since w2. -/
def CaI (w2 : World) (A : Option Addr) (n c : Nat) (l : List (Bool × Int × Int)) (wr : World) : Prop := Sl 44 3 wr A n c (ccells l) ∧ (∀ b, OwnB A b → w2.heap.size ≤ b) ∧ Below w2.heap.size w2 wr
theorem CaI.lf {κ : Nat → Nat} {w2 w : World} {A : Option Addr} {n c : Nat} {l : List (Bool × Int × Int)} (h : CaI w2 A n c l w) (hk : ∀ b, OwnB A b → κ b = 1) : LfV κ w A n c l := by
  obtain ⟨hS, _, _⟩ := h
  have hl := hS.1
  have hlen := length_ccells l
  have hn : l.length = n := by omega
  refine ⟨hn, ?_, fun h0 => ?_⟩
  · rcases hS.2 with ⟨_, h1, h2⟩ | ⟨_, _, _, _, _, h1, _⟩
    · omega
    · exact h1
  · obtain ⟨g, off, hA, hg, _⟩ := hS.at_ (j := 0) (by omega)
    refine ⟨g, off, hA, hk g (by rw [hA]; rfl), hg, fun k hk => ?_⟩
    have hc : ∀ r, r < 3 → w.cell? ⟨g, off + (k * 3 + r), none⟩ = (ccells l)[k * 3 + r]? := fun r hr => by
      obtain ⟨g2, off2, hA2, _, c2⟩ := hS.at_ (j := k * 3 + r) (by omega)
      rw [hA] at hA2
      injection hA2 with hA2
      injection hA2 with x1 x2
      subst x1 x2
      rw [c2, List.getElem?_eq_getElem]
    obtain ⟨t0, t1, t2⟩ := ccells_get l k (by omega)
    exact ⟨(hc 0 (by omega)).trans t0, (hc 1 (by omega)).trans t1, (hc 2 (by omega)).trans t2⟩
/-- The values that were taken out by the first calls. -/
def outQ (ts : List RQ) (j : Nat) : List Int := (ts.take j).filterMap fun t => if t.put = false ∧ t.err = 0 then some t.got else none
theorem outQ_succ (ts : List RQ) {j : Nat} (hj : j < ts.length) : outQ ts (j + 1) = outQ ts j ++ if (ts.getD j RQ0).put = false ∧ (ts.getD j RQ0).err = 0 then [(ts.getD j RQ0).got] else [] := by
  unfold outQ
  rw [List.take_succ_eq_append_getElem hj, List.filterMap_append, List.getD_eq_getElem?_getD, List.getElem?_eq_getElem hj]
  simp only [List.filterMap_cons, List.filterMap_nil, Option.getD_some]
  split <;> simp_all
theorem outQ_len (ts : List RQ) (j : Nat) : (outQ ts j).length ≤ j := by
  have := List.length_filterMap_le (fun t : RQ => if t.put = false ∧ t.err = 0 then some t.got else none) (ts.take j)
  unfold outQ
  rw [List.length_take] at this
  omega
theorem RunOk.outs {P : Nat} {q0 : List Int} {cs : List (Bool × Int × Nat)} {ms : List QM} {ord : List Nat} (h : RunOk P q0 cs ms ord) : outQ (ms.map rqOf) ms.length = ms.filterMap qOut := by
  unfold outQ
  rw [List.take_of_length_le (by simp), List.filterMap_map]
  refine fm_congr fun m hm => ?_
  obtain ⟨v, e, hf, _⟩ := h.err hm
  unfold qOut rqOf
  simp only [Function.comp, hf, QPh.ve]
theorem csOf_four (g : Nat) (hg : g ≤ 3) : (cs4 4 ++ List.replicate g (false, 0, 1)).take 7 = cs4 4 ++ List.replicate g (false, 0, 1) ∧ lfOf (csOf (cs4 4 ++ List.replicate g (false, 0, 1))) 0 = [10, 11, 12, 13].map (fun v => (true, v)) ∧ (∀ c ∈ lfOf (csOf (cs4 4 ++ List.replicate g (false, 0, 1))) 1, c.1 = false) ∧ lfOf (csOf (cs4 4 ++ List.replicate g (false, 0, 1))) 2 = [] := by
  rcases (by omega : g = 0 ∨ g = 1 ∨ g = 2 ∨ g = 3) with rfl | rfl | rfl | rfl <;> decide
theorem rd_four30 (w : World) (a b c d : Int) : Rd .u64 (w.alloc (.cells #[.int .u64 a, .int .u64 b, .int .u64 c, .int .u64 d] 34)) (some ⟨w.heap.size, 0, none⟩) [a, b, c, d] := by
  refine .inr ⟨_, 0, rfl, by simp, fun i hi => ?_⟩
  rw [(CB.new w 34 #[.int .u64 a, .int .u64 b, .int .u64 c, .int .u64 d]).cell (0 + i)]
  rcases (by simp at hi; omega : i = 0 ∨ i = 1 ∨ i = 2 ∨ i = 3) with rfl | rfl | rfl | rfl <;> rfl
set_option maxRecDepth 100000 in
set_option maxHeartbeats 8000000 in
theorem law_QueueOrders (w : World) (hT : Tab w) (Ap : Option Addr) (np cp : Nat) (ps : List Int) (hps : ps.length = np) (hnp : np < 9223372036854775808) (hpd : Rd .i64 w Ap ps) (hpr : ∀ z ∈ ps, -9223372036854775808 ≤ z ∧ z < 9223372036854775808)
    (z : Int) (hz : -9223372036854775808 ≤ z ∧ z < 9223372036854775808) :
    Calls Tryz.prog 4 #[.slice Ap np cp, .int .i64 z] w fun e w' => e = .returned (.bool true) ∧ Below w.heap.size w w' := by
  have HBE := Lib.hid (fBegin30 w hT 3 (by omega))
  have HAW := Lib.hid (fun (W : World) (hW : Below w.heap.size w W) => fawake30 W (hT.below hW))
  have HPS := Lib.hid (And.intro hps (And.intro hnp (And.intro hpd hpr)))
  obtain ⟨g, hg⟩ : ∃ g : Nat, z % 4 = (g : Int) := ⟨(z % 4).toNat, by omega⟩
  have HMD : Hid (∀ W, Calls Tryz.prog 14 #[.int .i64 z, .int .i64 4] W fun r w' => r = .returned (.int .i64 (g : Int)) ∧ W = w') := fun W => by have := fmod30 W z hz 4 (by omega); rw [hg] at this; exact this
  have hg3 : g ≤ 3 := by omega
  clear hT hps hnp hpd hpr hz hg
  go_enter Tryz.func4, Tryz.ntmps4
  go_upto_region 4 with (first
    | (go_at_call 10; (with_reducible refine HBE.out.mono ?_); rintro e w1 ⟨d, p, q, n, lines, t, σ, N, xs, L, rfl, hl, hq1, hq2, hQ, hW, hN, hb1⟩; have HB1 := Lib.hid hb1; have HX := Lib.hid (And.intro hq1 (And.intro hQ (And.intro hW (And.intro hN hl)))); clear hl hq1 hq2 hQ hW hN hb1)
    | (go_at_call 11; refine (HAW.out _ HB1.out).mono ?_; rintro e w2 ⟨rfl, hb2⟩; have HB2 := Lib.hid hb2; clear hb2))
  obtain ⟨κ, hR, hb, hk⟩ := begQ HX.out.1 HX.out.2.1 HX.out.2.2.1 HB1.out HB2.out
  have hN := HX.out.2.2.2.1
  have hl7 : lines = 7 := by have := HX.out.2.2.2.2; omega
  obtain ⟨P, hP⟩ : ∃ P, 8 * (lines - 1) = P := ⟨_, rfl⟩
  rw [hP] at hR
  have hP48 : P = 48 := by omega
  have HR2 := Lib.hid hR
  have HK := Lib.hid (And.intro hb (And.intro hk (And.intro hN (And.intro hP48 hl7))))
  have HI0 : Hid (CaI w2 none 0 0 (cs4 0) w2) := ⟨Sl.nil, fun b hb => by simp [OwnB] at hb, Below.refl _ _⟩
  clear HX HB1 HB2 HBE HAW hR hb hk hN hl7 hP hP48
  go_wp2
  go_loopw [26, 8, 9, 27, 28, 29, 30, 31, 32, 33, 34, 35, 36] (fun i s _ _ _ _ _ _ _ _ _ _ _ wr => ∃ (j : Nat) (A : Option Addr) (c : Nat), j ≤ 4 ∧ i = .int .i64 j ∧ s = .slice A j c ∧ CaI w2 A j c (cs4 j) wr) (fun i s _ _ _ _ _ _ _ _ _ _ _ _ => 4 - (intOf i).toNat)
  case atStart => exact ⟨0, none, 0, by omega, rfl, rfl, HI0.out⟩
  case round =>
    clear HI0
    obtain ⟨j, A, c, hj, rfl, rfl, hI⟩ := hrel
    have HI := Lib.hid hI
    clear hI
    by_cases hlt : j < 4
    · have hlt' : (j : Int) < 4 := by omega
      have e1 : IntKind.i64.wrap (10 + (j : Int)) = 10 + (j : Int) := IntWalk.i64_in _ (by omega)
      have e2 : IntKind.u64.wrap (10 + (j : Int)) = 10 + (j : Int) := IntWalk.u64_in _ (by omega)
      go_wp2_with (at_builtin; refine wpList_append_sl rfl (.tmp 29) (.tmp 34) 22 rfl 44 (.agg #[.bool false, .int .u64 0, .int .i64 0]) 3 24 rfl (by omega) Tryz.underlying22 info_call30 (by omega) A j c (ccells (cs4 j)) ⟨wr.heap.size, 0, none⟩ 1 1 [.bool true, .int .u64 (10 + (j : Int)), .int .i64 0] rfl rfl (HI.out.1.keep (fun b hb => Below.heap_alloc _ _ _ (HI.out.1.lt hb))) rfl (by omega) (cells_three wr 44 _ _ _) (by simp; exact ⟨rfl, rfl, rfl⟩) (by omega) ?_; intro A4 c4 w4 HO4 HC4 HW4 HN4)
      refine ⟨⟨j + 1, A4, c4, by omega, by go_num, rfl, ?_⟩, by simp [intOf]; omega⟩
      obtain ⟨h1, h2, h3⟩ := HI.out
      refine ⟨by rw [cs4_succ, ccells_snoc]; exact HO4.out, fun b hb => ?_, bl_ch (bl_alloc h3 _) HC4.out (fun b hb => h2 b hb)⟩
      rcases HW4.out b hb with h | h
      · exact h2 b h
      · have := h3.size
        rw [h]; simp; omega
    · obtain rfl : j = 4 := by omega
      go_wp2_with (go_at_call 14; (with_reducible refine (HMD.out _).mono ?_); rintro e w' ⟨rfl, rfl⟩)
      go_loopw [39, 8, 40, 41, 42, 43, 44, 45] (fun i s _ _ _ _ _ _ wr => ∃ (j : Nat) (A : Option Addr) (c : Nat), j ≤ g ∧ i = .int .i64 j ∧ s = .slice A (4 + j) c ∧ CaI w2 A (4 + j) c (cs4 4 ++ List.replicate j (false, 0, 1)) wr) (fun i s _ _ _ _ _ _ _ => g - (intOf i).toNat)
      case atStart => exact ⟨0, A, c, by omega, rfl, rfl, HI.out⟩
      case round =>
        clear HI
        obtain ⟨j, A, c, hj, rfl, rfl, hI⟩ := hrel
        have HI := Lib.hid hI
        clear hI
        by_cases hlt : j < g
        · have hlt' : (j : Int) < (g : Int) := by omega
          go_wp2_with (at_builtin; refine wpList_append_sl rfl (.tmp 41) (.tmp 43) 22 rfl 44 (.agg #[.bool false, .int .u64 0, .int .i64 0]) 3 24 rfl (by omega) Tryz.underlying22 info_call30 (by omega) A (4 + j) c (ccells (cs4 4 ++ List.replicate j (false, 0, 1))) ⟨wr.heap.size, 0, none⟩ 1 1 [.bool false, .int .u64 0, .int .i64 1] rfl rfl (HI.out.1.keep (fun b hb => Below.heap_alloc _ _ _ (HI.out.1.lt hb))) rfl (by omega) (cells_three wr 44 _ _ _) (by simp; exact ⟨rfl, rfl, rfl⟩) (by omega) ?_; intro A4 c4 w4 HO4 HC4 HW4 HN4)
          refine ⟨⟨j + 1, A4, c4, by omega, by go_num, rfl, ?_⟩, by simp [intOf]; omega⟩
          obtain ⟨h1, h2, h3⟩ := HI.out
          refine ⟨by rw [List.replicate_succ', ← List.append_assoc, ccells_snoc]; exact HO4.out, fun b hb => ?_, bl_ch (bl_alloc h3 _) HC4.out (fun b hb => h2 b hb)⟩
          rcases HW4.out b hb with h | h
          · exact h2 b h
          · have := h3.size
            rw [h]; simp; omega
        · obtain rfl : j = g := by omega
          obtain ⟨wm, hwm⟩ : ∃ wm, wr = wm := ⟨_, rfl⟩
          rw [hwm] at HI ⊢
          clear hwm
          obtain ⟨hb, hk, hN, hP48, hl7⟩ := HK.out
          have hR3 := HR2.out.ch HI.out.2.2
          have hk3 : ∀ b, b < w.heap.size → rolN κ w2 wm 1 b = 1 := fun b hlt => by rw [rolN_old (by have := hb.size; omega)]; exact hk b hlt
          have hb3 : Below w.heap.size w wm := hb.trans (HI.out.2.2.mono hb.size)
          obtain ⟨c1, c2, c3, c4⟩ := csOf_four j hg3
          have hct : (cs4 4 ++ List.replicate j (false, 0, 1)).length = 4 + j := by simp [length_cs4]
          have hRp := HPS.out.2.2.1.below hb3
          have hlf := HI.out.lf (κ := rolN κ w2 wm 1) (fun b hb => rolN_new (HI.out.2.1 b hb) (HI.out.1.lt hb))
          have HRN : Hid (Calls Tryz.prog 12 #[.pointer (some ⟨q, 0, none⟩), .slice A (4 + j) c, .slice Ap np cp, .bool true] wm (RunP (rolN κ w2 wm 1) p d q n lines P t [] N (cs4 4 ++ List.replicate j (false, 0, 1)) wm)) := by
            refine frunAll hR3 A (4 + j) c _ (by omega) hlf (fun x hx => ?_) Ap np cp ps HPS.out.1 HPS.out.2.1 hRp (fun b hb hlt => ?_) HPS.out.2.2.2 (by rw [c1, hct]; omega)
            · rcases List.mem_append.1 hx with h | h
              · obtain ⟨i, hi, rfl⟩ := List.mem_map.1 h
                have := List.mem_range.1 hi
                dsimp only; omega
              · rw [(List.mem_replicate.1 h).2]; dsimp only; omega
            · rcases HPS.out.2.2.1 with h | ⟨b2, off, h1, h2, h3⟩
              · have := HPS.out.1; rw [h] at this; simp at this; omega
              · rw [h1] at hb
                have : b2 = b := by simpa [OwnB] using hb
                rw [← this]; exact hk3 b2 h2
          have HB3 := Lib.hid (And.intro hb3 hk3)
          have HC3 := Lib.hid (And.intro c1 (And.intro c2 (And.intro c3 c4)))
          clear hb hk hN hP48 hl7 hR3 hk3 hb3 c1 c2 c3 c4 hct hRp hlf HI HMD
          go_upto_region 15 with (go_at_call 12; (with_reducible refine HRN.out.mono ?_); rintro e w5 ⟨Am, cm, ms, ord, κ5, N5, σ5, xs5, L5, rfl, hR5, hM5, hO5, hk5, hC5, hN5⟩; have HR5 := Lib.hid hR5; have HM5 := Lib.hid (hM5.maQ hO5); have HF5 := Lib.hid (And.intro hO5 (And.intro hk5 hC5)); clear hR5 hM5 hO5 hk5 hC5 hN5)
          obtain ⟨hO5, hk5, hC5⟩ := HF5.out
          obtain ⟨c1, c2, c3, c4⟩ := HC3.out
          obtain ⟨hb3, hk3⟩ := HB3.out
          obtain ⟨_, _, _, hP48, hl7⟩ := HK.out
          rw [c1] at hO5
          have hml : ms.length ≤ 7 := by
            have h1 := hO5.len
            have h2 : (csOf (cs4 4 ++ List.replicate j (false, 0, 1))).length = 4 + j := by unfold csOf; rw [List.length_map]; simp [length_cs4]
            omega
          have hout := hO5.four c2 c3 c4 (by rw [hP48]; decide)
          rw [← hO5.outs] at hout
          obtain ⟨f5, hV5⟩ := HR5.out.quV (by omega)
          have hle := hV5.ab.le
          have HB5 : Hid (Below w.heap.size w w5) := belK hb3 hk3 hC5
          have HBU := Lib.hid (fbusy30 w5 Am ms.length cm (ms.map rqOf) (by omega) HM5.out)
          have HTL : Hid ((ms.map rqOf).length = ms.length) := List.length_map _
          generalize ms.map rqOf = ts at HBU HTL HM5 hout
          generalize qSt P ms [] ord = qs at hV5 hle hout
          generalize ms.length = ml at HBU HTL HM5 hout hml
          have HAL : Hid (∀ W, Below w5.heap.size w5 W → Calls Tryz.prog 13 #[.pointer (some ⟨q, 0, none⟩)] W (AllP qs W)) := fun W hW => quAll (hV5.bl hW)
          have HOUT := Lib.hid hout
          have hqs : qs.length ≤ 48 := by omega
          clear hO5 hk5 hC5 c1 c2 c3 c4 hb3 hk3 hP48 hl7 hout hle hV5 HF5 HC3 HB3 HR5 HRN HK HPS HR2
          go_wp2_with (go_at_call 15; (with_reducible refine HBU.out.mono ?_); rintro e w' ⟨rfl, rfl⟩)
          go_loopw [62, 12, 14, 63, 64, 65, 66, 67, 68, 69, 70, 71, 72, 73, 74, 75, 76, 77, 78, 79, 80, 81, 82, 83, 84, 85, 86, 87, 88] (fun i s _ _ _ _ _ _ _ _ _ _ _ _ _ _ _ _ _ _ _ _ _ _ _ _ _ _ _ wr => ∃ (j : Nat) (A : Option Addr) (c : Nat), j ≤ ml ∧ i = .int .i64 j ∧ s = .slice A (outQ ts j).length c ∧ OwnI .u64 34 wr w5.heap.size A c (outQ ts j) ∧ Below w5.heap.size w5 wr) (fun i s _ _ _ _ _ _ _ _ _ _ _ _ _ _ _ _ _ _ _ _ _ _ _ _ _ _ _ _ => ml - (intOf i).toNat)
          case atStart => exact ⟨0, none, 0, by omega, rfl, rfl, OwnI.nil, Below.refl _ _⟩
          case round =>
            obtain ⟨j, A, c, hj, rfl, rfl, hO, hB⟩ := hrel
            have HO := Lib.hid hO
            have HB := Lib.hid hB
            obtain ⟨ol, hol⟩ : ∃ ol, (outQ ts j).length = ol := ⟨_, rfl⟩
            have hol9 := outQ_len ts j
            rw [hol] at hol9 ⊢
            have HOL := Lib.hid hol
            clear hO hol
            by_cases hlt : j < ml
            · have hlt' : (j : Int) < (ml : Int) := by omega
              obtain ⟨_, gS, oS, g1, a, hAs, hgS, hcS, hCB⟩ := (HM5.out.bl hB) j hlt
              have HON := Lib.hid (outQ_succ ts (j := j) (by rw [HTL.out]; exact hlt))
              generalize ts.getD j RQ0 = t at hCB HON
              obtain ⟨put, val, bg, en, ed, got, err⟩ := t
              dsimp only at hCB HON
              have d1 := hCB.cell 1
              have d6 := hCB.cell 6
              have d7 := hCB.cell 7
              have dl := hCB.lt
              subst hAs
              clear hCB hB
              cases put with
              | true =>
                go_wp2
                exact ⟨⟨j + 1, A, c, by omega, by go_num, by rw [HON.out]; simp [HOL.out], by rw [HON.out]; simpa using HO.out, HB.out⟩, by simp [intOf]; omega⟩
              | false =>
                by_cases he : err = 0
                · subst he
                  go_wp2_with (at_builtin; refine wpList_append_ints rfl (.tmp 80) (.tmp 86) 40 rfl 34 .u64 8 Tryz.underlying40 info_u64 (by omega) w5.heap.size A c (outQ ts j) ol (some ⟨wr.heap.size, 0, none⟩) 1 1 [got] rfl rfl HOL.out (HO.out.alloc _) rfl (rd_one30 _ _) (by rw [HOL.out]; simp; omega) (by have h9 := HB.out.size; simp; omega) ?_; intro A3 c3 w3 HO3 HC3 HW3)
                  exact ⟨⟨j + 1, A3, c3, by omega, by go_num, by rw [HON.out]; simp [HOL.out], by rw [HON.out]; simpa using HO3.out, bl_ch (bl_alloc HB.out _) HC3.out (fun b hb => (HO.out.lt hb).1)⟩, by simp [intOf]; omega⟩
                · have he' : (err == 0) = false := by simpa using he
                  go_wp2
                  exact ⟨⟨j + 1, A, c, by omega, by go_num, by rw [HON.out]; simp [HOL.out, he], by rw [HON.out]; simpa [he] using HO.out, HB.out⟩, by simp [intOf]; omega⟩
            · obtain rfl : j = ml := by omega
              clear hB
              go_wp2_with (first
                | (go_at_call 13; (with_reducible refine (HAL.out _ HB.out).mono ?_); rintro e w7 ⟨A7, c7, rfl, hr7, hb7, _⟩; have HR7 := Lib.hid hr7; have HO7 : Hid (OwnI .u64 34 w7 w5.heap.size A c (outQ ts j)) := HO.out.keep (fun b hb => hb7.block b (HO.out.lt hb).2); have HB7 : Hid (Below w5.heap.size w5 w7) := HB.out.trans (hb7.mono HB.out.size); clear hr7 hb7)
                | (at_builtin; refine wpList_append_ints rfl (.tmp 89) (.tmp 91) 40 rfl 34 .u64 8 Tryz.underlying40 info_u64 (by omega) w5.heap.size A c (outQ ts j) ol A7 qs.length c7 qs rfl rfl HOL.out HO7.out rfl HR7.out (by rw [HOL.out]; omega) HB7.out.size ?_; intro A3 c3 w3 HO3 HC3 HW3; have HB3 : Hid (Below w5.heap.size w5 w3) := bl_ch HB7.out HC3.out (fun b hb => (HO7.out.lt hb).1); have HQ3 : Hid ((outQ ts j ++ qs).length = ol + qs.length) := (by show _ = _; rw [List.length_append, HOL.out]))
                | (go_at_call 16; refine (refSame30 _ A3 (some ⟨w3.heap.size, 0, none⟩) (ol + qs.length) c3 4 4 (outQ ts j ++ qs) [10, 11, 12, 13] HQ3.out rfl (by omega) (HO3.out.rd.below (bl_alloc (Below.refl _ _) _)) (rd_four30 w3 10 11 12 13)).mono ?_; rw [HOUT.out]; rintro e w9 ⟨rfl, hb9⟩; have HB9 : Hid (Below w5.heap.size w5 w9) := (bl_alloc HB3.out _).trans (hb9.mono (bl_alloc HB3.out _).size); clear hb9))
              exact bodyPost_ret (v := .bool true) (by simp [results, Tryz.results4, go_sem]) rfl ⟨rfl, HB5.out.trans (HB9.out.mono HB5.out.size)⟩
end Go.Proofs.YtaefkelaffijbaaGreatDoor
