/- The law QueueCounts (merged). -/
import Derived.Test.YtaefkelaffijbaaGreatDoorKqu
import Derived.Maps.OwnOps
import Derived.Maps.RangeWalk
namespace Go.Proofs.YtaefkelaffijbaaGreatDoor
open Go.RowKit
set_option linter.unusedVariables false
set_option linter.unusedSimpArgs false
/-- What a call that is over has returned. -/
def QPh.ve : QPh → Int × Int
  | .fin v e => (v, e)
  | _ => (0, 1)
/-- The value that a call has taken out; that it has put in. -/
def qOut (m : QM) : Option Int := if m.ins = false ∧ m.ph.ve.2 = 0 then some m.ph.ve.1 else none
def qIn (m : QM) : Option Int := if m.ins = true ∧ m.ph.ve.2 = 0 then some m.val else none
section
variable {P W T : Nat} {q0 : List Int} {cs : List (Bool × Int × Nat)} {ms : List QM} {ord : List Nat} {σ : PwS} {L : Nat → Int}
theorem QLs.fifoAt (h : QLs W P q0 σ ms T L ord) (hall : ∀ (i : Nat) (m : QM), ms[i]? = some m → m.ph.over = true) : ∀ p, p ≤ ord.length →
    q0 ++ (ord.take p).filterMap (fun i => qIn (ms.getD i QM0)) = (ord.take p).filterMap (fun i => qOut (ms.getD i QM0)) ++ qSt P ms q0 (ord.take p) := by
  intro p
  induction p with
  | zero => intro _; simp [qSt]
  | succ p ih =>
    intro hp
    have hpl : p < ord.length := by omega
    have hts : ord.take (p + 1) = ord.take p ++ [ord[p]] := by rw [List.take_succ_eq_append_getElem hpl]
    have hg : ord[p]? = some ord[p] := List.getElem?_eq_getElem hpl
    have hil := h.mem _ (List.getElem_mem hpl)
    have hi : ms[ord[p]]? = some (ms[ord[p]]'hil) := List.getElem?_eq_getElem hil
    have hf := h.fin hall hg hi
    have ih := ih (by omega)
    rw [hts, qSt_snoc, List.filterMap_append, List.filterMap_append, getD_of hi, ← List.append_assoc, ih]
    generalize qSt P ms q0 (ord.take p) = Q at hf ⊢
    simp only [List.filterMap_cons, List.filterMap_nil, getD_of hi]
    generalize ms[ord[p]]'hil = m at hf ⊢
    unfold qIn qOut
    rw [hf]
    cases hins : m.ins with
    | true =>
      by_cases hc : P ≤ Q.length
      · simp [qApp, QPh.ve, hc]
      · simp [qApp, QPh.ve, hc]
    | false =>
      cases Q with
      | nil => simp [qApp, QPh.ve]
      | cons x Q => simp [qApp, QPh.ve]
theorem fm_ms {β : Type} (ms : List QM) (f : QM → Option β) : (List.range ms.length).filterMap (fun i => f (ms.getD i QM0)) = ms.filterMap f := by
  have : ms = (List.range ms.length).map (fun i => ms.getD i QM0) := by
    apply List.ext_getElem
    · simp
    · intro i h1 h2; simp [List.getD_eq_getElem?_getD, h1]
  conv => rhs; rw [this]
  rw [List.filterMap_map]; rfl
/-- What was put in is what was taken out and what is there. -/
theorem RunOk.fifo (h : RunOk P q0 cs ms ord) : q0 ++ ord.filterMap (fun i => qIn (ms.getD i QM0)) = ord.filterMap (fun i => qOut (ms.getD i QM0)) ++ qSt P ms q0 ord := by
  obtain ⟨σ, T, L, lf, now, g1, _, _, g4, _⟩ := h
  have := g1.fifoAt g4 ord.length (Nat.le_refl _)
  rwa [List.take_length] at this
theorem RunOk.counts (h : RunOk P q0 cs ms ord) (v : Int) : q0.count v + (ms.filterMap qIn).count v = (ms.filterMap qOut).count v + (qSt P ms q0 ord).count v := by
  have h1 := congrArg (List.count v) h.fifo
  rw [List.count_append, List.count_append, (h.permR.filterMap _).count_eq, (h.permR.filterMap (fun i => qOut (ms.getD i QM0))).count_eq, fm_ms ms qIn, fm_ms ms qOut] at h1
  exact h1
/-- The calls of one thread take effect in their order. -/
theorem RunOk.thr (h : RunOk P q0 cs ms ord) (t : Nat) : ord.filter (fun i => (ms.getD i QM0).th == t) = (List.range ms.length).filter (fun i => (ms.getD i QM0).th == t) := by
  have hp := h.permR
  obtain ⟨σ, T, L, lf, now, g1, g2, _, g4, _⟩ := h
  refine List.Perm.eq_of_pairwise (le := fun a b => a < b) (fun a b _ _ h1 h2 => by omega) ?_ (List.pairwise_lt_range.filter _) (hp.filter _)
  have hpw : ord.Pairwise (fun a b => (ms.getD a QM0).th = (ms.getD b QM0).th → a < b) := by
    rw [List.pairwise_iff_getElem]
    intro p p' h1 h2 hpp hth
    have e1 : ord[p]? = some ord[p] := List.getElem?_eq_getElem h1
    have l1 := g1.mem _ (List.getElem_mem h1)
    have l2 := g1.mem _ (List.getElem_mem h2)
    have hne : ord[p] ≠ ord[p'] := fun he => by
      have := (List.getElem_inj g1.nd (i := p) (j := p') (h₀ := h1) (h₁ := h2)).1 he
      omega
    rcases Nat.lt_or_gt_of_ne hne with hlt | hgt
    · exact hlt
    · exfalso
      have hk : ms[ord[p']]? = some (ms[ord[p']]'l2) := List.getElem?_eq_getElem l2
      have hi : ms[ord[p]]? = some (ms[ord[p]]'l1) := List.getElem?_eq_getElem l1
      rw [getD_of hi, getD_of hk] at hth
      have ho := g2.ord _ _ _ _ hgt hk hi hth.symm
      have := g1.rt p _ _ _ _ e1 hi hk ho.1 ho.2
      obtain ⟨r, hr⟩ := List.getElem?_of_mem this
      have hrl : r < p := by have := (List.getElem?_eq_some_iff.1 hr).1; simp at this; omega
      rw [List.getElem?_take, if_pos hrl] at hr
      obtain ⟨r1, r2⟩ := List.getElem?_eq_some_iff.1 hr
      have := (List.getElem_inj g1.nd (i := r) (j := p') (h₀ := r1) (h₁ := h2)).1 r2
      omega
  refine List.Pairwise.imp_of_mem (fun {a b} ha hb hab => ?_) (hpw.filter _)
  have ha' := (List.mem_filter.1 ha).2
  have hb' := (List.mem_filter.1 hb).2
  simp only [beq_iff_eq] at ha' hb'
  exact hab (by rw [ha', hb'])
theorem fm_congr {α β : Type} {f g : α → Option β} : ∀ {l : List α}, (∀ x ∈ l, f x = g x) → l.filterMap f = l.filterMap g
  | [], _ => rfl
  | x :: l, h => by rw [List.filterMap_cons, List.filterMap_cons, h x (by simp), fm_congr (l := l) fun y hy => h y (by simp [hy])]
theorem fm_filter {α β : Type} (l : List α) (p : α → Bool) (f : α → Option β) (h : ∀ x, p x = false → f x = none) : (l.filter p).filterMap f = l.filterMap f := by
  induction l with
  | nil => rfl
  | cons x l ih =>
    rw [List.filter_cons]
    split
    · rw [List.filterMap_cons, List.filterMap_cons, ih]
    · rename_i hx
      rw [ih, List.filterMap_cons, h x (by simpa using hx)]
/-- Four values of one thread. -/
theorem RunOk.four (h : RunOk P [] cs ms ord) {vs : List Int} (h0 : lfOf cs 0 = vs.map (fun v => (true, v))) (h1 : ∀ c ∈ lfOf cs 1, c.1 = false) (h2 : lfOf cs 2 = []) (hP : vs.length < P) : ms.filterMap qOut ++ qSt P ms [] ord = vs := by
  have hf := h.fifo
  have hthr := h.thr
  have hperm := h.permR
  have h' := h
  obtain ⟨σ, T, L, lf, now, g1, g2, g3, g4, _⟩ := h
  have hin : ∀ t, t < 3 → inTh ms t = lfOf cs t := fun t ht => by have := g2.seq t ht; rw [g3 t ht, List.append_nil] at this; exact this
  have hmem : ∀ m ∈ ms, (m.ins, m.val) ∈ lfOf cs m.th ∧ m.th < 3 := fun m hm => by
    obtain ⟨i, hi⟩ := List.mem_iff_getElem?.1 hm
    have hl := (g2.thr i m hi).1
    rw [← hin _ hl]
    exact ⟨List.mem_map.2 ⟨m, List.mem_filter.2 ⟨hm, by simp⟩, rfl⟩, hl⟩
  have hth : ∀ m ∈ ms, (m.th = 0 ∧ m.ins = true) ∨ (m.th = 1 ∧ m.ins = false) := fun m hm => by
    obtain ⟨a1, a2⟩ := hmem m hm
    have : m.th = 0 ∨ m.th = 1 ∨ m.th = 2 := by omega
    rcases this with e | e | e
    · rw [e, h0] at a1
      obtain ⟨v, _, e2⟩ := List.mem_map.1 a1
      injection e2 with e2 e3
      exact .inl ⟨e, e2.symm⟩
    · rw [e] at a1; exact .inr ⟨e, h1 _ a1⟩
    · rw [e, h2] at a1; cases a1
  have hd : ∀ i, i < ms.length → ms.getD i QM0 ∈ ms := fun i hi => by
    rw [List.getD_eq_getElem?_getD, List.getElem?_eq_getElem hi]; exact List.getElem_mem hi
  have hth0 : ∀ i, ((ms.getD i QM0).th = 0 ∧ (ms.getD i QM0).ins = true) ∨ ((ms.getD i QM0).th = 1 ∧ (ms.getD i QM0).ins = false) ∨ ms.getD i QM0 = QM0 := fun i => by
    by_cases hi : i < ms.length
    · rcases hth _ (hd i hi) with e | e
      · exact .inl e
      · exact .inr (.inl e)
    · refine .inr (.inr ?_)
      rw [List.getD_eq_getElem?_getD, List.getElem?_eq_none (by omega)]; rfl
  have eO : ord.filterMap (fun i => qOut (ms.getD i QM0)) = ms.filterMap qOut := by
    have hz : ∀ i, ((ms.getD i QM0).th == 1) = false → qOut (ms.getD i QM0) = none := fun i hi => by
      rcases hth0 i with ⟨e, e2⟩ | ⟨e, e2⟩ | e
      · unfold qOut; rw [e2]; simp
      · rw [e] at hi; cases hi
      · rw [e]; rfl
    rw [← fm_filter _ _ _ hz, hthr 1, fm_filter _ _ _ hz, fm_ms]
  have eI : ord.filterMap (fun i => qIn (ms.getD i QM0)) = ms.filterMap qIn := by
    have hz : ∀ i, ((ms.getD i QM0).th == 0) = false → qIn (ms.getD i QM0) = none := fun i hi => by
      rcases hth0 i with ⟨e, e2⟩ | ⟨e, e2⟩ | e
      · rw [e] at hi; cases hi
      · unfold qIn; rw [e2]; simp
      · rw [e]; rfl
    rw [← fm_filter _ _ _ hz, hthr 0, fm_filter _ _ _ hz, fm_ms]
  have e0 : (ms.filter fun m => m.th == 0).map (fun m => m.val) = vs := by
    have := congrArg (List.map Prod.snd) ((hin 0 (by omega)).trans h0)
    unfold inTh at this
    rw [List.map_map, List.map_map] at this
    simpa [Function.comp_def] using this
  have hlen : (ms.filterMap qIn).length ≤ vs.length := by
    have hz : ∀ m ∈ ms, (m.th == 0) = false → qIn m = none := fun m hm hi => by
      rcases hth m hm with ⟨e, e2⟩ | ⟨e, e2⟩
      · rw [e] at hi; cases hi
      · unfold qIn; rw [e2]; simp
    have hle : ∀ l : List QM, (∀ m ∈ l, m ∈ ms) → (l.filterMap qIn).length ≤ (l.filter fun m => m.th == 0).length := by
      intro l
      induction l with
      | nil => intro _; simp
      | cons m l ih =>
        intro hl
        have := ih (fun x hx => hl x (by simp [hx]))
        rw [List.filterMap_cons, List.filter_cons]
        by_cases ht : (m.th == 0) = true
        · rw [if_pos ht]
          cases qIn m <;> simp <;> omega
        · rw [if_neg ht, hz m (hl m (by simp)) (by simpa using ht)]
          exact this
    have h9 := hle ms (fun _ h => h)
    have h10 : (ms.filter fun m => m.th == 0).length = vs.length := by have := congrArg List.length e0; simpa using this
    omega
  have hall : ∀ m ∈ ms, m.ins = true → qIn m = some m.val := fun m hm hins => by
    obtain ⟨i, hi⟩ := List.mem_iff_getElem?.1 hm
    have hmo : i ∈ ord := hperm.mem_iff.2 (by rw [List.mem_range]; exact (List.getElem?_eq_some_iff.1 hi).1)
    obtain ⟨p, hp⟩ := List.getElem?_of_mem hmo
    have hpl := (List.getElem?_eq_some_iff.1 hp).1
    have hfp := g1.fifoAt g4 p (by omega)
    have hq : (qSt P ms [] (ord.take p)).length < P := by
      have l1 := congrArg List.length hfp
      simp only [List.nil_append, List.length_append] at l1
      have l2 : ((ord.take p).filterMap (fun i => qIn (ms.getD i QM0))).length ≤ (ord.filterMap (fun i => qIn (ms.getD i QM0))).length := ((List.take_sublist p ord).filterMap _).length_le
      rw [eI] at l2
      omega
    have hf := g1.fin g4 hp hi
    unfold qIn
    rw [hf, hins]
    simp [qApp, QPh.ve, Nat.not_le.2 hq]
  have eV : ms.filterMap qIn = vs := by
    have hz : ∀ m ∈ ms, (m.th == 0) = false → qIn m = none := fun m hm hi => by
      rcases hth m hm with ⟨e, e2⟩ | ⟨e, e2⟩
      · rw [e] at hi; cases hi
      · unfold qIn; rw [e2]; simp
    have hle : ∀ l : List QM, (∀ m ∈ l, m ∈ ms) → l.filterMap qIn = (l.filter fun m => m.th == 0).map (fun m => m.val) := by
      intro l
      induction l with
      | nil => intro _; rfl
      | cons m l ih =>
        intro hl
        have ih := ih (fun x hx => hl x (by simp [hx]))
        have hm := hl m (by simp)
        rw [List.filterMap_cons, List.filter_cons]
        rcases hth m hm with ⟨e, e2⟩ | ⟨e, e2⟩
        · rw [hall m hm e2, if_pos (by rw [e]; rfl), ih]; rfl
        · have : (m.th == 0) = false := by rw [e]; rfl
          rw [hz m hm this, if_neg (by rw [this]; simp), ih]
    rw [hle ms (fun _ h => h), e0]
  rw [eI, eO, eV] at hf
  rw [← hf]; rfl
end
theorem under_mapUI30 : Tryz.prog.underlying 32 = some (.map 34 3) := Tryz.underlying32
theorem keyedU30 : Maps.Keyed Tryz.prog 34 := Maps.int_keyed under_u64
theorem zeroI30 (w : World) : (zeroValue 3).run Tryz.prog w = .ok (.int .i64 0) w := by kernel_rfl
/-- Counts by values. -/
def CMap (w : World) (b : Nat) (f : Int → Int) (n : Nat) : Prop :=
  ∃ D : DataW Unit, w.ownsMap Tryz.prog 34 (plainElem Tryz.prog 3) b n D ∧ ∀ x, (Lit.int .u64 x).wf = true → D.atKey (.int .u64 x) (.lit (.int .i64 0)) = .lit (.int .i64 (f x))
theorem CMap.keep {w w' : World} {b n : Nat} {f : Int → Int} (h : CMap w b f n) (hb : w'.heap[b]? = w.heap[b]?) : CMap w' b f n := by
  obtain ⟨D, ⟨es, clock, h1, r⟩, h2⟩ := h
  exact ⟨D, ⟨es, clock, hb.trans h1, r⟩, h2⟩
theorem CMap.lt {w : World} {b n : Nat} {f : Int → Int} (h : CMap w b f n) : b < w.heap.size := by
  obtain ⟨D, h1, _⟩ := h
  exact h1.lt
theorem CMap.made (w : World) : CMap (w.alloc (.map #[] 0)) w.heap.size (fun _ => 0) 0 := by
  refine ⟨.map [], World.ownsMap_made w Tryz.prog 34 _, fun x hx => ?_⟩
  rfl
theorem wpList_lookup_c {w : World} {ops : Array Oper} {rest : List Oper} {o : Oper} {a : Act} {Q : Exit → Act → World → Prop}
    (hg : o.guard = none) (m x : Operand) (hop : o.op = Op.lookup 32 m x false) (b n : Nat) (f : Int → Int)
    (hm : a.eval m = .map (some b)) (hown : CMap w b f n) (k : Int) (hx : a.eval x = .int .u64 k) (hk : (Lit.int .u64 k).wf = true)
    (hK : wpList Tryz.prog ops Q rest (a.put o.dst (.int .i64 (f k))) w) :
    wpList Tryz.prog ops Q (o :: rest) a w := by
  refine wpList_plain hg fun K' hK' => ?_
  obtain ⟨D, hD, hS⟩ := hown
  obtain ⟨c, hrun, hat, hwc⟩ := hD.lookup_int keyedU30 under_mapUI30 under_int (zeroI30 w) (Maps.keyOf_int_mk under_u64 hk)
  rw [hS k hk] at hat
  injection hat with hat
  injection hat with _ hat
  unfold Oper.wp
  simp [execOp, hop, hm, hx, hrun, Result.andThen]
  rw [← hat]
  exact hK' _ _ hK
theorem wpList_put_c {w : World} {ops : Array Oper} {rest : List Oper} {o : Oper} {a : Act} {Q : Exit → Act → World → Prop}
    (hg : o.guard = none) (m x v : Operand) (hop : o.op = Op.mapUpdate 32 m x v) (b n : Nat) (f : Int → Int)
    (hm : a.eval m = .map (some b)) (hown : CMap w b f n) (hn : n < maxLen) (k c : Int) (hx : a.eval x = .int .u64 k) (hv : a.eval v = .int .i64 c) (hk : (Lit.int .u64 k).wf = true) (hc : (Lit.int .i64 c).wf = true)
    (hK : ∀ w', CMap w' b (fun x => if k = x then c else f x) (n + 1) → Ch (fun y => y = b) w w' → wpList Tryz.prog ops Q rest (a.put o.dst undef) w') :
    wpList Tryz.prog ops Q (o :: rest) a w := by
  obtain ⟨D, hD, hS⟩ := hown
  refine wpList_mapUpdate_own w hg m x v 32 hop 34 3 keyedU30 under_mapUI30 _ b n D hm hD hn _ _ (.int .u64 k) hx hv (Maps.keyOf_int_mk under_u64 hk) _ [] (plainElem_int under_int hc) ?_
  intro w' h1 h2
  refine hK w' ⟨_, h1, fun x hxw => ?_⟩ ⟨h2.os, h2.tape, h2.output, h2.size, fun y hy hb => h2.block y hy (fun h => hb (by injection h))⟩
  have hkl : WideAt.IsKeyLit (Lit.int .u64 k) := by simp [WideAt.IsKeyLit]
  have hM : Maps.IsMap D := hD.isMap
  by_cases hxk : k = x
  · subst hxk
    show _ = DataW.lit (Lit.int .i64 (if k = k then c else f k))
    rw [Maps.atKey_put_same hM hkl, if_pos rfl]
  · have hne : (Lit.int .u64 x) ≠ Lit.int .u64 k := fun h => hxk (by injection h with _ h; exact h.symm)
    show _ = DataW.lit (Lit.int .i64 (if k = x then c else f x))
    rw [Maps.atKey_put_other hne, if_neg hxk]
    exact hS x hxw
/-- What the first round makes of the counts. -/
def cnS30 (f : Int → Int) (t : RQ) : Int → Int := if t.err = 0 then (if t.put = true then fun x => if t.val = x then f t.val + 1 else f x else fun x => if t.got = x then f t.got - 1 else f x) else f
def cnF30 (ts : List RQ) : Int → Int := ts.foldl cnS30 (fun _ => 0)
def cnQ30 (f : Int → Int) (qs : List Int) : Int → Int := qs.foldl (fun f v => fun x => if v = x then f v - 1 else f x) f
def inR (t : RQ) : Option Int := if t.put = true ∧ t.err = 0 then some t.val else none
def outR (t : RQ) : Option Int := if t.put = false ∧ t.err = 0 then some t.got else none
theorem cnF30_succ (ts : List RQ) {j : Nat} (hj : j < ts.length) : cnF30 (ts.take (j + 1)) = cnS30 (cnF30 (ts.take j)) (ts.getD j RQ0) := by
  unfold cnF30
  rw [List.take_succ_eq_append_getElem hj, List.foldl_append, List.getD_eq_getElem?_getD, List.getElem?_eq_getElem hj]
  rfl
theorem cnQ30_succ (f : Int → Int) (qs : List Int) {j : Nat} (hj : j < qs.length) : cnQ30 f (qs.take (j + 1)) = fun x => if qs.getD j 0 = x then cnQ30 f (qs.take j) (qs.getD j 0) - 1 else cnQ30 f (qs.take j) x := by
  unfold cnQ30
  rw [List.take_succ_eq_append_getElem hj, List.foldl_append, List.getD_eq_getElem?_getD, List.getElem?_eq_getElem hj]
  rfl
theorem cnS30_eq (ts : List RQ) (f : Int → Int) (x : Int) : ts.foldl cnS30 f x = f x + ((ts.filterMap inR).count x : Nat) - ((ts.filterMap outR).count x : Nat) := by
  induction ts generalizing f with
  | nil => simp
  | cons t ts ih =>
    rw [List.foldl_cons, ih, List.filterMap_cons, List.filterMap_cons]
    unfold cnS30 inR outR
    by_cases he : t.err = 0
    · cases hp : t.put with
      | true =>
        by_cases hx : t.val = x
        · subst hx; simp [he]; omega
        · simp [he, hx, List.count_cons]
      | false =>
        by_cases hx : t.got = x
        · subst hx; simp [he]; omega
        · simp [he, hx, List.count_cons]
    · simp [he]
theorem cnF30_eq (ts : List RQ) (x : Int) : cnF30 ts x = ((ts.filterMap inR).count x : Nat) - ((ts.filterMap outR).count x : Nat) := by
  unfold cnF30
  rw [cnS30_eq]; omega
theorem cnQ30_eq (qs : List Int) (f : Int → Int) (x : Int) : cnQ30 f qs x = f x - (qs.count x : Nat) := by
  unfold cnQ30
  induction qs generalizing f with
  | nil => simp
  | cons v qs ih =>
    rw [List.foldl_cons, ih]
    by_cases hx : v = x
    · subst hx; simp; omega
    · simp [hx, List.count_cons]
theorem cnF30_bd (ts : List RQ) (x : Int) : -(ts.length : Int) ≤ cnF30 ts x ∧ cnF30 ts x ≤ ts.length := by
  rw [cnF30_eq]
  have h1 : (ts.filterMap inR).count x ≤ ts.length := Nat.le_trans List.count_le_length (List.length_filterMap_le _ _)
  have h2 : (ts.filterMap outR).count x ≤ ts.length := Nat.le_trans List.count_le_length (List.length_filterMap_le _ _)
  omega
section
variable {P : Nat} {cs : List (Bool × Int × Nat)} {ms : List QM} {ord : List Nat}
theorem RunOk.ins (h : RunOk P [] cs ms ord) : (ms.map rqOf).filterMap inR = ms.filterMap qIn ∧ (ms.map rqOf).filterMap outR = ms.filterMap qOut := by
  constructor
  · rw [List.filterMap_map]
    refine fm_congr fun m hm => ?_
    obtain ⟨v, e, hf, _⟩ := h.err hm
    unfold qIn rqOf inR
    simp only [Function.comp, hf, QPh.ve]
  · rw [List.filterMap_map]
    refine fm_congr fun m hm => ?_
    obtain ⟨v, e, hf, _⟩ := h.err hm
    unfold qOut rqOf outR
    simp only [Function.comp, hf, QPh.ve]
/-- All values are such that were put in. -/
theorem RunOk.rng (h : RunOk P [] cs ms ord) : (∀ v ∈ ms.filterMap qOut, 0 ≤ v ∧ v < 1099511627776) ∧ (∀ v ∈ qSt P ms [] ord, 0 ≤ v ∧ v < 1099511627776) ∧ ∀ m ∈ ms, 0 ≤ m.val ∧ m.val < 1099511627776 := by
  have hf := h.fifo
  have hp := h.permR
  have hv : ∀ m ∈ ms, 0 ≤ m.val ∧ m.val < 1099511627776 := by
    obtain ⟨σ, T, L, lf, now, g1, _⟩ := h
    intro m hm
    obtain ⟨i, hi⟩ := List.mem_iff_getElem?.1 hm
    exact (g1.ok i m hi).vl
  have hi : ∀ v ∈ ord.filterMap (fun i => qIn (ms.getD i QM0)), 0 ≤ v ∧ v < 1099511627776 := by
    intro v hv'
    rw [(hp.filterMap _).mem_iff, fm_ms] at hv'
    obtain ⟨m, hm, e⟩ := List.mem_filterMap.1 hv'
    unfold qIn at e
    split at e
    · injection e with e; rw [← e]; exact hv m hm
    · cases e
  rw [List.nil_append] at hf
  refine ⟨fun v hv' => ?_, fun v hv' => ?_, hv⟩
  · rw [← fm_ms ms qOut, ← (hp.filterMap (fun i => qOut (ms.getD i QM0))).mem_iff] at hv'
    exact hi v (by rw [hf]; exact List.mem_append_left _ hv')
  · exact hi v (by rw [hf]; exact List.mem_append_right _ hv')
theorem RunOk.zero (h : RunOk P [] cs ms ord) (x : Int) : cnQ30 (cnF30 (ms.map rqOf)) (qSt P ms [] ord) x = 0 := by
  rw [cnQ30_eq, cnF30_eq, h.ins.1, h.ins.2]
  have := h.counts x
  simp only [List.count_nil] at this
  omega
end
theorem wfI30 {c : Int} (h : -1000000 ≤ c ∧ c ≤ 1000000) : (Lit.int .i64 c).wf = true := wf_mk .i64 c (by show (-9223372036854775808 : Int) ≤ c; omega) (by show c ≤ (9223372036854775807 : Int); omega)
theorem wfU30 {v : Int} (h : 0 ≤ v ∧ v < 1099511627776) : (Lit.int .u64 v).wf = true := wf_mk .u64 v (by show (0 : Int) ≤ v; omega) (by show v ≤ (18446744073709551615 : Int); omega)
theorem cnQ30_bd (F : Int → Int) (qs : List Int) (x : Int) : F x - qs.length ≤ cnQ30 F qs x ∧ cnQ30 F qs x ≤ F x := by
  rw [cnQ30_eq]
  have h1 : qs.count x ≤ qs.length := List.count_le_length
  omega
theorem rdC {w w' : World} {k : IntKind} {A : Option Addr} {vs : List Int} {S : Nat → Prop} (h : Rd k w A vs) (hC : Ch S w w') (hS : ∀ b, OwnB A b → ¬ S b) : Rd k w' A vs := by
  rcases h with h | ⟨b, off, h1, h2, h3⟩
  · exact .inl h
  · exact .inr ⟨b, off, h1, Nat.lt_of_lt_of_le h2 hC.size, fun i hi => (hC.cells b _ h2 (hS b (by rw [h1]; rfl))).trans (h3 i hi)⟩
set_option maxRecDepth 100000 in
set_option maxHeartbeats 8000000 in
theorem law_QueueCounts (w : World) (hT : Tab w) (Ac : Option Addr) (len cap : Nat) (cs : List (Bool × Int × Int)) (hcs : IsCs w Ac len cap cs)
    (Ap : Option Addr) (np cp : Nat) (ps : List Int) (hps : ps.length = np) (hnp : np < 9223372036854775808) (hpd : Rd .i64 w Ap ps) (hpr : ∀ z ∈ ps, -9223372036854775808 ≤ z ∧ z < 9223372036854775808) :
    Calls Tryz.prog 3 #[.slice Ac len cap, .slice Ap np cp] w fun e w' => e = .returned (.bool true) ∧ Below w.heap.size w w' := by
  have HBE := Lib.hid (fBegin30 w hT 3 (by omega))
  have HAW := Lib.hid (fun (W : World) (hW : Below w.heap.size w W) => fawake30 W (hT.below hW))
  have HCS := Lib.hid hcs
  have HPS := Lib.hid (And.intro hps (And.intro hnp (And.intro hpd hpr)))
  have hmm := @run_makeMap Tryz.prog
  clear hT hcs hps hnp hpd hpr
  go_enter Tryz.func3, Tryz.ntmps3
  go_upto_region 4 with (first
    | (go_at_call 10; (with_reducible refine HBE.out.mono ?_); rintro e w1 ⟨d, p, q, n, lines, t, σ, N, xs, L, rfl, hl, hq1, hq2, hQ, hW, hN, hb1⟩; have HB1 := Lib.hid hb1; have HX := Lib.hid (And.intro hq1 (And.intro hQ (And.intro hW (And.intro hN hl)))); clear hl hq1 hq2 hQ hW hN hb1)
    | (go_at_call 11; refine (HAW.out _ HB1.out).mono ?_; rintro e w2 ⟨rfl, hb2⟩; have HB2 := Lib.hid hb2; clear hb2))
  obtain ⟨κ, hR, hb, hk⟩ := begQ HX.out.1 HX.out.2.1 HX.out.2.2.1 HB1.out HB2.out
  have hN := HX.out.2.2.2.1
  have hl7 : lines = 7 := by have := HX.out.2.2.2.2; omega
  obtain ⟨P, hP⟩ : ∃ P, 8 * (lines - 1) = P := ⟨_, rfl⟩
  rw [hP] at hR
  have hP48 : P = 48 := by omega
  have hLF := HCS.out.lf (κ := κ) hb.size (fun b hlt => ⟨hk b hlt, hb.block b hlt⟩)
  have hRp := HPS.out.2.2.1.below hb
  have HRN : Hid (Calls Tryz.prog 12 #[.pointer (some ⟨q, 0, none⟩), .slice Ac len cap, .slice Ap np cp, .bool true] w2 (RunP κ p d q n lines P t [] N cs w2)) := by
    have hct : (cs.take 7).length ≤ 7 := by rw [List.length_take]; omega
    refine frunAll hR Ac len cap cs (by have := HCS.out.2.2.1; have := HCS.out.2.1; omega) hLF HCS.out.2.2.2.2 Ap np cp ps HPS.out.1 HPS.out.2.1 hRp (fun b hb hlt => ?_) HPS.out.2.2.2 (by omega)
    rcases HPS.out.2.2.1 with h | ⟨b2, off, h1, h2, h3⟩
    · have := HPS.out.1; rw [h] at this; simp at this; omega
    · rw [h1] at hb
      have : b2 = b := by simpa [OwnB] using hb
      rw [← this]; exact hk b2 h2
  have HK := Lib.hid (And.intro hb (And.intro hk (And.intro hP48 hl7)))
  clear HX HB1 HB2 HBE HAW hR hb hk hN hl7 hP hP48 hLF hRp HCS HPS
  go_upto_region 5 with (go_at_call 12; (with_reducible refine HRN.out.mono ?_); rintro e w5 ⟨Am, cm, ms, ord, κ5, N5, σ5, xs5, L5, rfl, hR5, hM5, hO5, hk5, hC5, hN5⟩; have HR5 := Lib.hid hR5; have HM5 := Lib.hid (hM5.maQ hO5); have HF5 := Lib.hid (And.intro hO5 (And.intro hk5 hC5)); clear hR5 hM5 hO5 hk5 hC5 hN5)
  obtain ⟨hO5, hk5, hC5⟩ := HF5.out
  obtain ⟨hb, hk, hP48, hl7⟩ := HK.out
  have hml : ms.length ≤ 7 := by
    have h1 := hO5.len
    have h2 : (csOf (cs.take 7)).length ≤ 7 := by unfold csOf; rw [List.length_map, List.length_take]; omega
    omega
  obtain ⟨f5, hV5⟩ := HR5.out.quV (by omega)
  have hle := hV5.ab.le
  have HB5 : Hid (Below w.heap.size w w5) := belK hb hk hC5
  have HZ := Lib.hid hO5.zero
  have hrg := hO5.rng
  have hrt : ∀ i, i < ms.length → ((ms.map rqOf).getD i RQ0).err = 0 → (0 ≤ ((ms.map rqOf).getD i RQ0).val ∧ ((ms.map rqOf).getD i RQ0).val < 1099511627776) ∧ (((ms.map rqOf).getD i RQ0).put = false → 0 ≤ ((ms.map rqOf).getD i RQ0).got ∧ ((ms.map rqOf).getD i RQ0).got < 1099511627776) := fun i hi he => by
    have hg := List.getElem?_eq_getElem hi
    rw [rqOf_get hg] at he ⊢
    obtain ⟨v, e, hf, _⟩ := hO5.err (List.getElem_mem hi)
    have hq : rqOf ms[i] = ⟨ms[i].ins, ms[i].val, ms[i].bg, ms[i].en, true, v, e⟩ := by unfold rqOf; rw [hf]
    rw [hq] at he ⊢
    refine ⟨hrg.2.2 _ (List.getElem_mem hi), fun hp => hrg.1 v (List.mem_filterMap.2 ⟨ms[i], List.getElem_mem hi, ?_⟩)⟩
    unfold qOut
    rw [hf]
    have he' : e = 0 := he
    have hp' : ms[i].ins = false := hp
    simp [QPh.ve, he', hp']
  have HRT := Lib.hid hrt
  have HRQ := Lib.hid hrg.2.1
  have hqs : (qSt P ms [] ord).length ≤ 48 := by omega
  have HTL : Hid ((ms.map rqOf).length = ms.length) := List.length_map _
  generalize ms.map rqOf = ts at HZ HTL HM5 HRT
  generalize qSt P ms [] ord = qs at hV5 hle HZ HRQ hqs
  generalize ms.length = ml at HTL HM5 hml HRT
  have HAL : Hid (∀ W, Below w5.heap.size w5 W → Calls Tryz.prog 13 #[.pointer (some ⟨q, 0, none⟩)] W (AllP qs W)) := fun W hW => quAll (hV5.bl hW)
  have HCM : Hid (CMap (w5.alloc (.map #[] 0)) w5.heap.size (cnF30 (ts.take 0)) 0) := CMap.made w5
  have HBM : Hid (Below w5.heap.size w5 (w5.alloc (.map #[] 0))) := bl_alloc (Below.refl _ _) _
  clear hO5 hk5 hC5 hb hk hP48 hl7 hV5 hle hrg hrt HF5 HR5 HRN HK
  go_upto_region 8 with (fail)
  obtain ⟨mb, hmb⟩ : ∃ mb, w5.heap.size = mb := ⟨_, rfl⟩
  have HMB : Hid (w5.heap.size ≤ mb) := by show _ ≤ _; omega
  obtain ⟨W6, hW6⟩ : ∃ W6, w5.alloc (.map #[] 0) = W6 := ⟨_, rfl⟩
  rw [hW6] at HCM HBM ⊢
  rw [hmb] at HCM
  simp only [hmb]
  clear hmb hW6 hmm
  go_wp2
  go_loopw [40, 12, 41, 42, 43, 44, 45, 46, 47, 48, 49, 50, 51, 52, 53, 54, 55, 56, 57, 58, 59, 60, 61, 62, 63, 64, 65, 66, 67, 68, 69, 70, 71, 72, 73] (fun i _ _ _ _ _ _ _ _ _ _ _ _ _ _ _ _ _ _ _ _ _ _ _ _ _ _ _ _ _ _ _ _ _ _ wr => ∃ j n' : Nat, j ≤ ml ∧ n' ≤ j ∧ i = .int .i64 j ∧ CMap wr mb (cnF30 (ts.take j)) n' ∧ Below w5.heap.size w5 wr) (fun i _ _ _ _ _ _ _ _ _ _ _ _ _ _ _ _ _ _ _ _ _ _ _ _ _ _ _ _ _ _ _ _ _ _ _ => ml - (intOf i).toNat)
  case atStart => exact ⟨0, 0, by omega, by omega, rfl, HCM.out, HBM.out⟩
  case round =>
    clear HCM HBM
    obtain ⟨j, n', hj, hn', rfl, hM, hB⟩ := hrel
    have HM := Lib.hid hM
    have HB := Lib.hid hB
    by_cases hlt : j < ml
    · have hlt' : (j : Int) < (ml : Int) := by omega
      obtain ⟨_, gS, oS, g1, a, hAs, hgS, hcS, hCB⟩ := (HM5.out.bl hB) j hlt
      have HCN := Lib.hid (cnF30_succ ts (j := j) (by rw [HTL.out]; exact hlt))
      have HRJ := Lib.hid (HRT.out j hlt)
      have hbd := fun x => cnF30_bd (ts.take j) x
      have htl : (ts.take j).length ≤ 7 := by rw [List.length_take]; omega
      generalize cnF30 (ts.take j) = F at HM HCN hbd
      generalize ts.getD j RQ0 = t at hCB HCN HRJ
      obtain ⟨put, val, bg, en, ed, got, err⟩ := t
      dsimp only at hCB HRJ
      have d1 := hCB.cell 1
      have d2 := hCB.cell 2
      have d6 := hCB.cell 6
      have d7 := hCB.cell 7
      have dl := hCB.lt
      have hml9 : n' < maxLen := by unfold maxLen; omega
      subst hAs
      by_cases he : err = 0
      · subst he
        obtain ⟨hr1, hr2⟩ := HRJ.out rfl
        cases put with
        | true =>
          have hbv := hbd val
          have e1 : IntKind.i64.wrap (F val + 1) = F val + 1 := IntWalk.i64_in _ (by omega)
          have HW1 := Lib.hid (wfU30 hr1)
          have HW2 : Hid ((Lit.int .i64 (F val + 1)).wf = true) := wfI30 (by omega)
          clear hCB hB hM hbd hbv hr1 hr2 htl
          go_wp2_with (first
            | (at_lookup; refine wpList_lookup_c rfl (.tmp 65) (.tmp 70) rfl mb _ _ rfl HM.out val rfl HW1.out ?_)
            | (at_mapUpdate; refine wpList_put_c rfl (.tmp 65) (.tmp 70) (.tmp 72) rfl mb _ _ rfl HM.out hml9 val (F val + 1) rfl rfl HW1.out HW2.out ?_; intro w3 hM3 hC3; have HM3 := Lib.hid hM3; have HC3 := Lib.hid hC3; clear hM3 hC3))
          exact ⟨⟨j + 1, n' + 1, by omega, by omega, by go_num, by rw [HCN.out]; exact HM3.out, bl_ch HB.out HC3.out (fun b hb => by have hb : b = mb := hb; rw [hb]; exact HMB.out)⟩, by simp [intOf]; omega⟩
        | false =>
          have hbv := hbd got
          have e1 : IntKind.i64.wrap (F got - 1) = F got - 1 := IntWalk.i64_in _ (by omega)
          have HW1 := Lib.hid (wfU30 (hr2 rfl))
          have HW2 : Hid ((Lit.int .i64 (F got - 1)).wf = true) := wfI30 (by omega)
          clear hCB hB hM hbd hbv hr1 hr2 htl
          go_wp2_with (first
            | (at_lookup; refine wpList_lookup_c rfl (.tmp 44) (.tmp 49) rfl mb _ _ rfl HM.out got rfl HW1.out ?_)
            | (at_mapUpdate; refine wpList_put_c rfl (.tmp 44) (.tmp 49) (.tmp 51) rfl mb _ _ rfl HM.out hml9 got (F got - 1) rfl rfl HW1.out HW2.out ?_; intro w3 hM3 hC3; have HM3 := Lib.hid hM3; have HC3 := Lib.hid hC3; clear hM3 hC3))
          exact ⟨⟨j + 1, n' + 1, by omega, by omega, by go_num, by rw [HCN.out]; exact HM3.out, bl_ch HB.out HC3.out (fun b hb => by have hb : b = mb := hb; rw [hb]; exact HMB.out)⟩, by simp [intOf]; omega⟩
      · have he' : (err != 0) = true := by simp [he]
        clear hCB hB hM hbd htl
        go_wp2
        exact ⟨⟨j + 1, n', by omega, by omega, by go_num, by rw [HCN.out]; unfold cnS30; rw [if_neg he]; exact HM.out, HB.out⟩, by simp [intOf]; omega⟩
    · obtain rfl : ml = j := by omega
      rw [List.take_of_length_le (by rw [HTL.out]; exact Nat.le_refl _)] at hM
      have HMF := Lib.hid hM
      clear hB hM HM
      go_upto_region 17 with (go_at_call 13; (with_reducible refine (HAL.out _ HB.out).mono ?_); rintro e w7 ⟨A7, c7, rfl, hr7, hb7, ho7⟩; have HR7 := Lib.hid hr7; have HO7 := Lib.hid ho7; have HM7 : Hid (CMap w7 mb (cnQ30 (cnF30 ts) (qs.take 0)) n') := HMF.out.keep (hb7.block mb HMF.out.lt); have HB7 : Hid (Below w5.heap.size w5 w7) := HB.out.trans (hb7.mono HB.out.size); have HML : Hid (∀ b, OwnB A7 b → b ≠ mb) := (fun b hb => by have h1 := (ho7 b hb).1; have h2 := HMF.out.lt; omega); clear hr7 hb7 ho7)
      clear HMF HM5 HAL
      go_loopw [77, 14, 78, 79, 80, 81, 82, 83, 84, 85] (fun i _ _ _ _ _ _ _ _ _ wr => ∃ j n' : Nat, j ≤ qs.length ∧ n' ≤ ml + j ∧ i = .int .i64 j ∧ CMap wr mb (cnQ30 (cnF30 ts) (qs.take j)) n' ∧ Below w5.heap.size w5 wr ∧ Rd .u64 wr A7 qs) (fun i _ _ _ _ _ _ _ _ _ _ => qs.length - (intOf i).toNat)
      case atStart => exact ⟨0, n', by omega, by omega, rfl, HM7.out, HB7.out, HR7.out⟩
      case round =>
        clear HM7 HB7 HR7 HB
        obtain ⟨j, n', hj, hn', rfl, hM, hB, hR⟩ := hrel
        have HM := Lib.hid hM
        have HB := Lib.hid hB
        have HR := Lib.hid hR
        by_cases hlt : j < qs.length
        · have hlt' : (j : Int) < (qs.length : Int) := by omega
          have HCN := Lib.hid (cnQ30_succ (cnF30 ts) qs hlt)
          have hv := HRQ.out (qs.getD j 0) (by rw [List.getD_eq_getElem?_getD, List.getElem?_eq_getElem hlt]; exact List.getElem_mem hlt)
          have hbd := cnQ30_bd (cnF30 ts) (qs.take j) (qs.getD j 0)
          have hbf := cnF30_bd ts (qs.getD j 0)
          have htl := HTL.out
          have hql : (qs.take j).length ≤ 48 := by rw [List.length_take]; omega
          obtain ⟨g7, o7, hA7, hg7, hc7⟩ := hR.at_ (i := j) hlt
          have hgd : qs[j]'hlt = qs.getD j 0 := by rw [List.getD_eq_getElem?_getD, List.getElem?_eq_getElem hlt]; rfl
          rw [hgd] at hc7
          generalize qs.getD j 0 = v at hc7 HCN hv hbd hbf
          have e1 : IntKind.i64.wrap (cnQ30 (cnF30 ts) (qs.take j) v - 1) = cnQ30 (cnF30 ts) (qs.take j) v - 1 := IntWalk.i64_in _ (by omega)
          have HW1 := Lib.hid (wfU30 hv)
          have HW2 : Hid ((Lit.int .i64 (cnQ30 (cnF30 ts) (qs.take j) v - 1)).wf = true) := wfI30 (by omega)
          have hml9 : n' < maxLen := by unfold maxLen; omega
          generalize cnQ30 (cnF30 ts) (qs.take j) = F at HM HCN e1 HW2
          subst hA7
          clear hM hB hR hv hbd hbf htl hql hgd
          go_wp2_with (first
            | (at_lookup; refine wpList_lookup_c rfl (.tmp 81) (.tmp 82) rfl mb _ _ rfl HM.out v rfl HW1.out ?_)
            | (at_mapUpdate; refine wpList_put_c rfl (.tmp 81) (.tmp 82) (.tmp 84) rfl mb _ _ rfl HM.out hml9 v (F v - 1) rfl rfl HW1.out HW2.out ?_; intro w3 hM3 hC3; have HM3 := Lib.hid hM3; have HC3 := Lib.hid hC3; clear hM3 hC3))
          exact ⟨⟨j + 1, n' + 1, by omega, by omega, by go_num, by rw [HCN.out]; exact HM3.out, bl_ch HB.out HC3.out (fun b hb => by have hb : b = mb := hb; rw [hb]; exact HMB.out), rdC HR.out HC3.out (fun b hb hx => HML.out b hb hx)⟩, by simp [intOf]; omega⟩
        · obtain rfl : j = qs.length := by omega
          rw [List.take_of_length_le (Nat.le_refl _)] at hM
          have hZM : CMap wr mb (fun _ => 0) n' := by
            obtain ⟨D, h1, h2⟩ := hM
            exact ⟨D, h1, fun x hx => by rw [h2 x hx, HZ.out x]⟩
          obtain ⟨D, hD, hD2⟩ := hZM
          have HO := Lib.hid hD
          have HD2 := Lib.hid hD2
          clear hM hB hR hD hD2 HM HR
          go_wp2_with (first | (at_range; refine wpList_range_own _ rfl _ 32 rfl 34 3 keyedU30 under_mapUI30 _ mb n' D rfl HO.out ?_; intro w0 hrg0 hg0 hs0) | go_in)
          try go_frame
          have HI0 : Hid (Below w5.heap.size w5 w0) := bl_ch (S := fun _ => False) HB.out ⟨hg0.os, hg0.tape, hg0.output, hg0.size, fun b hb _ => hg0.block b hb (by simp)⟩ (fun b hb => hb.elim)
          have HRG0 := Lib.hid hrg0
          obtain ⟨r, hr⟩ : ∃ r, wr.heap.size = r := ⟨_, rfl⟩
          have HRS : Hid (w5.heap.size ≤ r) := by show _ ≤ _; rw [← hr]; exact HB.out.size
          rw [hr] at HRG0 ⊢
          clear hrg0 hg0 hs0 HO HB hr
          go_loopw [4, 16, 88, 89, 90, 91, 92, 93] (fun _ _ _ _ _ _ _ _ wr => ∃ left cnt, wr.ranges Tryz.prog 34 (plainElem Tryz.prog 3) mb r n' D left cnt ∧ Below w5.heap.size w5 wr) (fun _ _ _ _ _ _ _ _ wr => wr.rangeLeft mb r)
          case atStart => exact ⟨_, _, HRG0.out, HI0.out⟩
          case round =>
            clear HRG0 HI0
            obtain ⟨left, cnt, hrg, hB⟩ := hrel
            have HRG := Lib.hid hrg
            have HLE := Lib.hid hrg.left_eq
            have HB := Lib.hid hB
            clear hrg hB
            go_wp2_with (first | (at_next; refine wpList_next_ranges_ii _ rfl _ rfl 34 3 .u64 .i64 keyedU30 under_u64 under_int mb _ _ _ _ _ rfl HRG.out ?_ ?_) | go_in)
            · intro hc0 hl0
              go_wp2
              exact bodyPost_ret (v := .bool true) (by simp [results, Tryz.results3, go_sem]) rfl ⟨rfl, HB5.out.trans (HB.out.mono HB5.out.size)⟩
            · intro x c w2 cnt2 hwx hwc hlx hat hrg2 hlt2 hg2 hs2 hen
              obtain rfl : c = 0 := by
                have h1 := HD2.out x hwx
                rw [hat] at h1
                injection h1 with h1
                injection h1 with _ h1
              have HRG2 := Lib.hid hrg2
              have HB2 : Hid (Below w5.heap.size w5 w2) := bl_ch (S := fun b => b = r) HB.out ⟨hg2.os, hg2.tape, hg2.output, hg2.size, fun b hb hx => hg2.block b hb (fun h => hx (by injection h))⟩ (fun b hb => by have hb : b = r := hb; rw [hb]; exact HRS.out)
              clear hrg2 hg2 hat
              go_wp2
              exact ⟨⟨_, _, HRG2.out, HB2.out⟩, by rw [HRG2.out.left_eq, HLE.out]; exact hlt2⟩
end Go.Proofs.YtaefkelaffijbaaGreatDoor
