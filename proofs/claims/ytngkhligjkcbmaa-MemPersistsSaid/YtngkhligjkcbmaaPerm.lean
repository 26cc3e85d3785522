/- A region that draws its order, in an order of our own: quiet parts (in whatever order), and operations that are the only ones that can come next. -/
import Derived.Test.YtngkhligjkcbmaaSeg
namespace Go.Proofs.Ytngkhligjkcbmaa
open Go.RowKit

section
variable {P : Program} {ops : Array Oper} {md : Region.Mode}

/-- For each operation those for which it waits. -/
def cloStep (md : Region.Mode) (tab : List (List Nat)) (o : Oper) : List Nat :=
  o.after.toList.foldr (fun e acc => if Region.binds md e then e.on :: ((tab[e.on]?.getD []) ++ acc) else acc) []
def cloTab (md : Region.Mode) (l : List Oper) : List (List Nat) := l.foldl (fun tab o => tab ++ [(cloStep md tab o).eraseDups]) []

/-- t waits for i, at once or through others. -/
inductive Waits (md : Region.Mode) (ops : Array Oper) : Nat → Nat → Prop
  | one {t i : Nat} {o : Oper} {e : Edge} (ho : ops[t]? = some o) (he : e ∈ o.after) (hb : Region.binds md e = true) (hi : e.on = i) : Waits md ops t i
  | more {t i : Nat} {o : Oper} {e : Edge} (ho : ops[t]? = some o) (he : e ∈ o.after) (hb : Region.binds md e = true) (h : Waits md ops e.on i) : Waits md ops t i

theorem cloStep_spec {tab : List (List Nat)} {o : Oper} {t : Nat} (ho : ops[t]? = some o) (ht : ∀ j, ∀ i ∈ tab[j]?.getD [], Waits md ops j i) : ∀ i ∈ cloStep md tab o, Waits md ops t i := by
  intro i hi
  unfold cloStep at hi
  have : ∀ (l : List Edge), (∀ e ∈ l, e ∈ o.after) → i ∈ l.foldr (fun e acc => if Region.binds md e then e.on :: ((tab[e.on]?.getD []) ++ acc) else acc) [] → Waits md ops t i := by
    intro l
    induction l with
    | nil => intro _ h; cases h
    | cons e l ih =>
      intro hl h
      rw [List.foldr_cons] at h
      split at h
      · rename_i hb
        rcases List.mem_cons.1 h with h | h
        · exact .one ho (hl e (by simp)) hb h.symm
        · rcases List.mem_append.1 h with h | h
          · exact .more ho (hl e (by simp)) hb (ht _ _ h)
          · exact ih (fun e he => hl e (by simp [he])) h
      · exact ih (fun e he => hl e (by simp [he])) h
  exact this _ (fun e he => by simpa using he) hi

theorem cloTab_spec (l : List Oper) : ∀ j, ∀ i ∈ (cloTab md l)[j]?.getD [], Waits md l.toArray j i := by
  have : ∀ (r : List Oper) (k : Nat) (tab : List (List Nat)), tab.length = k → (∀ j, r[j]? = l[k + j]?) → (∀ j, ∀ i ∈ tab[j]?.getD [], Waits md l.toArray j i) →
      ∀ j, ∀ i ∈ (r.foldl (fun tab o => tab ++ [(cloStep md tab o).eraseDups]) tab)[j]?.getD [], Waits md l.toArray j i := by
    intro r
    induction r with
    | nil => intro k tab _ _ h; exact h
    | cons o r ih =>
      intro k tab hk hr h
      rw [List.foldl_cons]
      refine ih (k + 1) _ (by simp [hk]) (fun j => by have := hr (j + 1); simpa [Nat.add_assoc, Nat.add_comm 1 j] using this) ?_
      intro j i hi
      rcases Nat.lt_trichotomy j tab.length with hj | hj | hj
      · rw [List.getElem?_append_left hj] at hi; exact h j i hi
      · subst hj
        rw [List.getElem?_append_right (Nat.le_refl _)] at hi
        simp only [Nat.sub_self, List.getElem?_cons_zero, Option.getD_some] at hi
        have h0 : l.toArray[tab.length]? = some o := by have := hr 0; simp only [List.getElem?_cons_zero, Nat.add_zero, ← hk] at this; simpa using this.symm
        exact cloStep_spec h0 h i (List.mem_eraseDups.1 hi)
      · rw [List.getElem?_eq_none (by simp; omega)] at hi; cases hi
  exact this l 0 [] rfl (fun j => by simp) (fun j i hi => by simp at hi)

/-- What is listed: closed, and nothing outside D. -/
structure PInv (md : Region.Mode) (ops : Array Oper) (D : List Nat) (listed : Array Bool) : Prop where
  size : listed.size = ops.size
  closed : ∀ j oj, ops[j]? = some oj → listed.getD j false = true → ∀ e ∈ oj.after, Region.binds md e = true → listed.getD e.on false = true
  out : ∀ t, t < ops.size → t ∉ D → listed.getD t true = false

theorem PInv.set {D : List Nat} {i : Nat} {listed : Array Bool} (inv : PInv md ops D listed) (hi : i ∈ Region.ready md ops listed) (hin : i ∈ D) : PInv md ops D (listed.setIfInBounds i true) := by
  obtain ⟨_, oi, hoi, hall⟩ := mem_ready.1 hi
  refine ⟨by simp [inv.size], fun j oj hj hl e he hb => ?_, fun t ht ht' => by rw [getD_set_ne true (by rintro rfl; exact ht' hin)]; exact inv.out t ht ht'⟩
  by_cases hij : i = j
  · subst hij
    have : oj = oi := Option.some.inj (hj.symm.trans hoi)
    subst this
    exact getD_set_true (hall e he hb)
  · rw [getD_set_ne false hij] at hl
    exact getD_set_true (inv.closed j oj hj hl e he hb)
theorem PInv.up {D E : List Nat} {listed : Array Bool} (h : PInv md ops D listed) (hs : ∀ t ∈ D, t ∈ E) : PInv md ops E listed := ⟨h.size, h.closed, fun t ht hn => h.out t ht (fun hd => hn (hs t hd))⟩

theorem waits_unlisted {D : List Nat} {listed : Array Bool} (inv : PInv md ops D listed) {t i : Nat} (h : Waits md ops t i) (hi : listed.getD i false = false) : listed.getD t false = false := by
  induction h with
  | one ho he hb hon =>
    rename_i t i o e
    cases hl : listed.getD t false with
    | false => rfl
    | true => have := inv.closed t o ho hl e he hb; rw [hon, hi] at this; cases this
  | more ho he hb h ih =>
    rename_i t i o e
    cases hl : listed.getD t false with
    | false => rfl
    | true => have := inv.closed t o ho hl e he hb; rw [ih hi] at this; cases this
theorem waits_not_ready {D : List Nat} {listed : Array Bool} (inv : PInv md ops D listed) {t i : Nat} (h : Waits md ops t i) (hi : listed.getD i false = false) : t ∉ Region.ready md ops listed := by
  intro hr
  obtain ⟨_, ot, hot, hall⟩ := mem_ready.1 hr
  cases h with
  | one ho he hb hon =>
    have := Option.some.inj (ho.symm.trans hot)
    subst this
    have := hall _ he hb
    rw [hon, hi] at this; cases this
  | more ho he hb h =>
    have := Option.some.inj (ho.symm.trans hot)
    subst this
    have := hall _ he hb
    rw [waits_unlisted inv h hi] at this; cases this

variable {C : World → Prop}

def wpAnyP (P : Program) (md : Region.Mode) (ops : Array Oper) (C : World → Prop) (D : List Nat) (L : Array Bool → Act → Prop) : Nat → Array Bool → Act → Prop
  | 0, listed, a => L listed a
  | f + 1, listed, a =>
    Region.ready md ops listed ≠ [] ∧ ∀ i ∈ Region.ready md ops listed, i ∈ D ∧ qOp P ops C i (wpAnyP P md ops C D L f (listed.setIfInBounds i true)) a

theorem wpAny_of_headP {D : List Nat} {g : Nat} {L : Array Bool → Act → Prop} {Q' : Exit → Act → World → Prop} (hL : ∀ listed a w, C w → L listed a → wpAny P md ops Q' g listed a w) :
    ∀ (f : Nat) (listed : Array Bool) (a : Act) (w : World), C w → wpAnyP P md ops C D L f listed a → wpAny P md ops Q' (f + g) listed a w
  | 0, listed, a, w, hw, h => by rw [Nat.zero_add]; exact hL _ _ _ hw h
  | f + 1, listed, a, w, hw, h => by
    rw [show f + 1 + g = (f + g) + 1 by omega]
    exact ⟨fun h0 => absurd h0 h.1, fun i hi => wpOp_of_qOp hw (fun a' w' hw' h' => wpAny_of_headP hL f _ a' w' hw' h') (h.2 i hi).2⟩

/-- All others wait for i. -/
def Bars (md : Region.Mode) (ops : Array Oper) (D : List Nat) (i : Nat) : Prop := ∀ t, t < ops.size → t ∉ D → Waits md ops t i

theorem wpAnyP_first {D : List Nat} {i : Nat} {oi : Oper} {v : Value} {L : Array Bool → Act → Prop} (hi : ops[i]? = some oi) (hsel : ∀ (j : Nat) (o : Oper) cs b, ops[j]? = some o → o.op ≠ .select cs b)
    (hb : Bars md ops D i) (hin : i ∈ D)
    (hdone : ∀ listed a, L listed a → ∀ j ∈ Region.ready md ops listed, j ∉ D) :
    ∀ (f : Nat) (listed : Array Bool) (a : Act), PInv md ops D listed →
      (∀ j oj, ops[j]? = some oj → j ≠ i → listed.getD j true = false → (∀ e ∈ oj.after, Region.binds md e = true → e.on ≠ i) → oi.apart ops oj = true) →
      i ∈ Region.ready md ops listed → YieldsIn P ops C oi v a →
      wpAnyP P md ops C D L f (listed.setIfInBounds i true) (a.put oi.dst v) → wpAnyP P md ops C D L (f + 1) listed a := by
  have hinD : ∀ (listed : Array Bool), PInv md ops D listed → listed.getD i true = false → ∀ j ∈ Region.ready md ops listed, j ∈ D := by
    intro listed inv hun j hj
    rcases Decidable.em (j ∈ D) with h | h
    · exact h
    · obtain ⟨_, oj, hoj, _⟩ := mem_ready.1 hj
      exact absurd hj (waits_not_ready inv (hb j (Array.getElem?_eq_some_iff.1 hoj).1 h) (getD_both hun))
  intro f
  induction f with
  | zero =>
    intro listed a inv _ hr hy H
    have hun := (mem_ready.1 hr).1
    refine ⟨fun h => (by rw [h] at hr; cases hr), fun j hj => ?_⟩
    have hjn := hinD listed inv hun j hj
    refine ⟨hjn, ?_⟩
    by_cases hji : j = i
    · subst hji; exact hy.qOp hi H
    · exact absurd hjn (hdone _ _ H j (ready_mono hj hji))
  | succ f ih =>
    intro listed a inv hfree hr hy H
    have hun := (mem_ready.1 hr).1
    refine ⟨fun h => (by rw [h] at hr; cases hr), fun j hj => ?_⟩
    have hjn := hinD listed inv hun j hj
    refine ⟨hjn, ?_⟩
    by_cases hji : j = i
    · subst hji; exact hy.qOp hi H
    · have h1 := (H.2 j (ready_mono hj hji)).2
      obtain ⟨hjun, oj, hoj, hall⟩ := mem_ready.1 hj
      have hnot : ∀ e ∈ oj.after, Region.binds md e = true → e.on ≠ i := fun e he hb heq => by
        have h1 := hall e he hb
        rw [heq, getD_both hun] at h1
        cases h1
      have h2 := qOp_put hoj (hfree j oj hoj hji hjun hnot) (fun cs b => hsel i oi cs b hi) (fun cs b => hsel j oj cs b hoj) hy h1
      have hfree' : ∀ k ok, ops[k]? = some ok → k ≠ i → (listed.setIfInBounds j true).getD k true = false →
          (∀ e ∈ ok.after, Region.binds md e = true → e.on ≠ i) → oi.apart ops ok = true := fun k ok hk hki hun hno => by
        refine hfree k ok hk hki ?_ hno
        by_cases hjk : j = k
        · subst hjk; exact hjun
        · rw [getD_set_ne true hjk] at hun; exact hun
      refine qOp_mono (fun a' h3 => ih (listed.setIfInBounds j true) a' (inv.set hj hjn) hfree' (ready_mono hr (Ne.symm hji)) h3.1 ?_) h2
      rw [Array.setIfInBounds_comm _ _ hji]
      exact h3.2

def quietP (md : Region.Mode) (ops : Array Oper) (rest : Array Bool → Bool) : List Nat → Array Bool → Bool
  | [], listed => rest listed
  | k :: ks, listed => (Region.ready md ops listed).contains k && Region.free md ops listed k && quietP md ops rest ks (listed.setIfInBounds k true)
def seqP (md : Region.Mode) (ops : Array Oper) (rest : Array Bool → Bool) : List Nat → Array Bool → Bool
  | [], listed => rest listed
  | k :: ks, listed => decide (Region.ready md ops listed = [k]) && seqP md ops rest ks (listed.setIfInBounds k true)
/-- A part of a region: quiet, in the order given (hard), or without a look at the world (pure). -/
inductive Part
  | q (ks : List Nat)
  | h (ks : List Nat)
  | p (ks : List Nat)
def Part.ks : Part → List Nat
  | .q ks | .h ks | .p ks => ks
def barP (tab : List (List Nat)) (n : Nat) (D ks : List Nat) : Bool := (List.range n).all fun t => D.contains t || ks.all fun i => (tab[t]?.getD []).contains i
def partB (md : Region.Mode) (ops : Array Oper) (tab : List (List Nat)) : List Part → List Nat → Array Bool → Bool
  | [], D, listed => D.all (fun t => listed.getD t false) && decide (D.length = ops.size) && (Region.ready md ops listed).isEmpty
  | .q ks :: r, D, listed => D.all (fun t => listed.getD t false) && barP tab ops.size (D ++ ks) ks && quietP md ops (partB md ops tab r (D ++ ks)) ks listed
  | .h ks :: r, D, listed => D.all (fun t => listed.getD t false) && seqP md ops (partB md ops tab r (D ++ ks)) ks listed
  | .p ks :: r, D, listed => D.all (fun t => listed.getD t false) && quietP md ops (partB md ops tab r (D ++ ks)) ks listed

theorem partB_all {tab : List (List Nat)} {r : List Part} {D : List Nat} {listed : Array Bool} (h : partB md ops tab r D listed = true) : D.all (fun t => listed.getD t false) = true := by
  rcases r with _ | ⟨⟨ks⟩ | ⟨ks⟩ | ⟨ks⟩, r⟩ <;> simp only [partB, Bool.and_eq_true] at h
  · exact h.1.1
  · exact h.1.1
  · exact h.1
  · exact h.1
theorem partB_ready {tab : List (List Nat)} {r : List Part} {D : List Nat} {listed : Array Bool} (h : partB md ops tab r D listed = true) : ∀ j ∈ Region.ready md ops listed, j ∉ D := by
  intro j hj hD
  have h1 := List.all_eq_true.1 (partB_all h) j hD
  rw [getD_both (mem_ready.1 hj).1] at h1
  cases h1

def pick (l : List Oper) (ks : List Nat) : List Oper := ks.filterMap (l[·]?)
@[simp] theorem pick_nil (l : List Oper) : pick l [] = [] := rfl
theorem pick_cons {l : List Oper} {k : Nat} {ks : List Nat} {o : Oper} (h : l[k]? = some o) : pick l (k :: ks) = o :: pick l ks := by simp [pick, h]

/-- Operations that do not look at the world. -/
def wpPure (P : Program) (ops : Array Oper) (K : Act → Prop) : List Oper → Act → Prop
  | [], a => K a
  | o :: l, a => ∃ v, Yields P ops o v a ∧ wpPure P ops K l (a.put o.dst v)
theorem pure_nil {K : Act → Prop} {a : Act} (h : K a) : wpPure P ops K [] a := h
theorem pure_cons {K : Act → Prop} {o : Oper} {l : List Oper} {a : Act} {v : Value} (h1 : Region.wanted o (yielded ops a.tmps) = true) (h2 : ∀ w, (execOp a.eval o).run P w = .ok (.value v) w) (h : wpPure P ops K l (a.put o.dst v)) : wpPure P ops K (o :: l) a := ⟨v, .inl ⟨h1, h2⟩, h⟩
theorem pure_skip {K : Act → Prop} {o : Oper} {l : List Oper} {a : Act} (h1 : Region.wanted o (yielded ops a.tmps) = false) (h : wpPure P ops K l (a.put o.dst undef)) : wpPure P ops K (o :: l) a := ⟨undef, .inr ⟨h1, rfl⟩, h⟩

def wpParts (P : Program) (l : List Oper) (C : World → World → Prop) (Q : Exit → Act → World → Prop) : List Part → Act → World → Prop
  | [], a, w => Q .normal a w
  | .q ks :: r, a, w => wpQuiet P l.toArray (C w) (fun a' => ∀ w', C w w' → wpParts P l C Q r a' w') (pick l ks) a
  | .h ks :: r, a, w => wpList P l.toArray (segQ Q (fun a' w' => wpParts P l C Q r a' w')) (pick l ks) a w
  | .p ks :: r, a, w => wpPure P l.toArray (fun a' => wpParts P l C Q r a' w) (pick l ks) a

theorem quietP_some {l : List Oper} {_rest : Array Bool → Bool} {k : Nat} {_ks : List Nat} {listed : Array Bool} (h : k ∈ Region.ready md l.toArray listed) : ∃ o, l[k]? = some o := by
  obtain ⟨_, o, ho, _⟩ := mem_ready.1 h
  exact ⟨o, by simpa using ho⟩

theorem wpAnyP_lex {l : List Oper} {D : List Nat} {R : Array Bool → Bool} {Lq : Act → Prop} (hsel : Region.noSelect l.toArray = true)
    (hR : ∀ listed, R listed = true → ∀ j ∈ Region.ready md l.toArray listed, j ∉ D) :
    ∀ (ks : List Nat) (listed : Array Bool) (a : Act), (∀ k ∈ ks, k ∈ D ∧ Bars md l.toArray D k) → PInv md l.toArray D listed →
    quietP md l.toArray R ks listed = true → wpQuiet P l.toArray C Lq (pick l ks) a →
    wpAnyP P md l.toArray C D (fun listed' a' => (R listed' = true ∧ PInv md l.toArray D listed') ∧ Lq a') ks.length listed a
  | [], listed, a, _, inv, hB, h => ⟨⟨by simpa [quietP] using hB, inv⟩, h⟩
  | k :: ks, listed, a, hD, inv, hB, h => by
    simp only [quietP, Bool.and_eq_true] at hB
    obtain ⟨⟨hr, hf⟩, hB'⟩ := hB
    have hr' : k ∈ Region.ready md l.toArray listed := by simpa using hr
    obtain ⟨o, ho⟩ := quietP_some (_rest := R) (_ks := ks) hr'
    have h0 : l.toArray[k]? = some o := by simpa using ho
    rw [pick_cons ho] at h
    have hst : qOp P l.toArray C k (wpQuiet P l.toArray C Lq (pick l ks)) a := by unfold qOp; simp only [h0]; exact h
    obtain ⟨v, hy, hK⟩ := yieldsIn_of_qOp h0 hst
    obtain ⟨hkD, hkb⟩ := hD k (by simp)
    exact wpAnyP_first h0 (Region.noSelect_spec hsel) hkb hkD (fun listed' a' hL => hR _ hL.1.1) ks.length listed a inv (Region.free_spec h0 hf) hr' hy
      (wpAnyP_lex hsel hR ks _ _ (fun k' hk' => hD k' (by simp [hk'])) (inv.set hr' hkD) hB' hK)

theorem wpAny_of_seqP {l : List Oper} {D : List Nat} {R : Array Bool → Bool} {Q' : Exit → Act → World → Prop} {K : Act → World → Prop} {g : Nat}
    (hR : ∀ listed a w, PInv md l.toArray D listed → R listed = true → K a w → wpAny P md l.toArray Q' g listed a w) :
    ∀ (ks : List Nat) (listed : Array Bool) (a : Act) (w : World), (∀ k ∈ ks, k ∈ D) → PInv md l.toArray D listed →
    seqP md l.toArray R ks listed = true → wpList P l.toArray (segQ Q' K) (pick l ks) a w → wpAny P md l.toArray Q' (ks.length + g) listed a w
  | [], listed, a, w, _, inv, hB, h => by
    rw [List.length_nil, Nat.zero_add]
    exact hR _ _ _ inv (by simpa [seqP] using hB) h.out
  | k :: ks, listed, a, w, hD, inv, hB, h => by
    simp only [seqP, Bool.and_eq_true, decide_eq_true_eq] at hB
    have hr' : k ∈ Region.ready md l.toArray listed := by rw [hB.1]; simp
    obtain ⟨o, ho⟩ := quietP_some (_rest := R) (_ks := ks) hr'
    have h0 : l.toArray[k]? = some o := by simpa using ho
    rw [pick_cons ho] at h
    rw [List.length_cons, show ks.length + 1 + g = (ks.length + g) + 1 by omega]
    refine ⟨fun h1 => (by rw [hB.1] at h1; cases h1), fun i hi => ?_⟩
    have hik : i = k := by rw [hB.1] at hi; simpa using hi
    subst hik
    have hw : wpOp P l.toArray (segQ Q' K) i (wpList P l.toArray (segQ Q' K) (pick l ks)) a w := by unfold wpOp; simp only [h0]; exact h
    exact wpOp_mono (fun a' w' h' => wpAny_of_seqP hR ks _ a' w' (fun k' hk' => hD k' (by simp [hk'])) (inv.set hr' (hD i (by simp))) hB.2 h') (wpOp_segQ hw)

theorem wpAny_of_pure {l : List Oper} {R : Array Bool → Bool} {Q' : Exit → Act → World → Prop} {K : Act → Prop} {g : Nat} {w : World} {D : List Nat} (hsel : Region.noSelect l.toArray = true)
    (hQ : ∀ c a d v w, Q' (.panic c) (a.put d v) w → Q' (.panic c) a w)
    (hR : ∀ listed a, PInv md l.toArray D listed → R listed = true → K a → wpAny P md l.toArray Q' g listed a w) :
    ∀ (ks : List Nat) (listed : Array Bool) (a : Act), (∀ k ∈ ks, k ∈ D) → PInv md l.toArray D listed →
    quietP md l.toArray R ks listed = true → wpPure P l.toArray K (pick l ks) a → wpAny P md l.toArray Q' (ks.length + g) listed a w
  | [], listed, a, _, inv, hB, h => by
    rw [List.length_nil, Nat.zero_add]
    exact hR _ _ inv (by simpa [quietP] using hB) h
  | k :: ks, listed, a, hD, inv, hB, h => by
    simp only [quietP, Bool.and_eq_true] at hB
    obtain ⟨⟨hr, hf⟩, hB'⟩ := hB
    have hr' : k ∈ Region.ready md l.toArray listed := by simpa using hr
    obtain ⟨o, ho⟩ := quietP_some (_rest := R) (_ks := ks) hr'
    have h0 : l.toArray[k]? = some o := by simpa using ho
    rw [pick_cons ho] at h
    obtain ⟨v, hy, h⟩ := h
    rw [List.length_cons, show ks.length + 1 + g = (ks.length + g) + 1 by omega]
    exact wpAny_first h0 (Region.noSelect_spec hsel) (fun c a w h => hQ c a _ _ w h) (ks.length + g) listed a w (Region.free_spec h0 hf) hr' hy
      (wpAny_of_pure hsel hQ hR ks _ _ (fun k' hk' => hD k' (by simp [hk'])) (inv.set hr' (hD k (by simp))) hB' h)

theorem bars_of {l : List Oper} {D ks : List Nat} (hb : barP (cloTab md l) l.length (D ++ ks) ks = true) : ∀ k ∈ ks, k ∈ D ++ ks ∧ Bars md l.toArray (D ++ ks) k := by
  intro k hk
  refine ⟨by simp [hk], fun t ht hnt => ?_⟩
  have h1 := List.all_eq_true.1 hb t (List.mem_range.2 (by simpa using ht))
  simp only [Bool.or_eq_true, List.contains_iff_mem] at h1
  rcases h1 with h1 | h1
  · exact absurd h1 hnt
  · have h2 := List.all_eq_true.1 h1 k hk
    rw [List.contains_iff_mem] at h2
    exact cloTab_spec l t k h2

theorem wpAny_of_parts {C : World → World → Prop} (hC : ∀ w, C w w) {l : List Oper} {Q : Exit → Act → World → Prop} (hsel : Region.noSelect l.toArray = true) (hQ : ∀ c a d v w, Q (.panic c) (a.put d v) w → Q (.panic c) a w) :
    ∀ (r : List Part) (D : List Nat) (listed : Array Bool) (a : Act) (w : World) (n : Nat), D.length + n = l.length → PInv md l.toArray D listed → partB md l.toArray (cloTab md l) r D listed = true →
    wpParts P l C Q r a w → (r.map (·.ks.length)).sum = n → wpAny P md l.toArray Q n listed a w
  | [], D, listed, a, w, n, hn, inv, hB, h, hs => by
    simp only [partB, Bool.and_eq_true, decide_eq_true_eq, List.isEmpty_iff, List.size_toArray] at hB
    obtain rfl : n = 0 := by simpa using hs.symm
    exact ⟨hB.2, h⟩
  | .q ks :: r, D, listed, a, w, n, hn, inv, hB, h, hs => by
    simp only [partB, Bool.and_eq_true, List.size_toArray] at hB
    obtain ⟨⟨_, hb⟩, hq⟩ := hB
    simp only [List.map_cons, List.sum_cons, Part.ks] at hs
    have H := wpAnyP_lex (md := md) (C := C w) (D := D ++ ks) (R := partB md l.toArray (cloTab md l) r (D ++ ks)) hsel (fun listed' h' => partB_ready h') ks listed a (bars_of hb) (inv.up (fun t ht => by simp [ht])) hq h
    have := wpAny_of_headP (Q' := Q) (g := n - ks.length) (fun listed' a' w' hw' hL =>
      wpAny_of_parts hC hsel hQ r (D ++ ks) listed' a' w' (n - ks.length) (by rw [List.length_append]; omega) hL.1.2 hL.1.1 (hL.2 w' hw') (by simp only [Part.ks]; omega)) _ _ _ _ (hC w) H
    rw [show ks.length + (n - ks.length) = n by omega] at this
    exact this
  | .h ks :: r, D, listed, a, w, n, hn, inv, hB, h, hs => by
    simp only [partB, Bool.and_eq_true] at hB
    simp only [List.map_cons, List.sum_cons, Part.ks] at hs
    have := wpAny_of_seqP (md := md) (D := D ++ ks) (R := partB md l.toArray (cloTab md l) r (D ++ ks)) (Q' := Q) (K := fun a' w' => wpParts P l C Q r a' w') (g := n - ks.length)
      (fun listed' a' w' inv' hR h2 => wpAny_of_parts hC hsel hQ r (D ++ ks) listed' a' w' (n - ks.length) (by rw [List.length_append]; omega) inv' hR h2 (by simp only [Part.ks]; omega))
      ks listed a w (fun k hk => by simp [hk]) (inv.up (fun t ht => by simp [ht])) hB.2 h
    rw [show ks.length + (n - ks.length) = n by omega] at this
    exact this
  | .p ks :: r, D, listed, a, w, n, hn, inv, hB, h, hs => by
    simp only [partB, Bool.and_eq_true] at hB
    simp only [List.map_cons, List.sum_cons, Part.ks] at hs
    have := wpAny_of_pure (md := md) (D := D ++ ks) (R := partB md l.toArray (cloTab md l) r (D ++ ks)) (Q' := Q) (K := fun a' => wpParts P l C Q r a' w) (g := n - ks.length) hsel hQ
      (fun listed' a' inv' hR h2 => wpAny_of_parts hC hsel hQ r (D ++ ks) listed' a' w (n - ks.length) (by rw [List.length_append]; omega) inv' hR h2 (by simp only [Part.ks]; omega))
      ks listed a (fun k hk => by simp [hk]) (inv.up (fun t ht => by simp [ht])) hB.2 h
    rw [show ks.length + (n - ks.length) = n by omega] at this
    exact this

/-- The test of a region's edges for an order of parts. -/
def ordB (l : List Oper) (r : List Part) : Bool :=
  Region.noSelect l.toArray && decide ((r.map (·.ks.length)).sum = l.length) && partB .any l.toArray (cloTab .any l) r [] (Array.replicate l.length false)

theorem pinv0 (l : List Oper) : PInv .any l.toArray [] (Array.replicate l.length false) :=
  ⟨by simp, fun j oj _ hl => (by rw [getD_replicate_false] at hl; cases hl), fun t ht _ => getD_in (by simpa using ht) (getD_replicate_false _ _)⟩

theorem wp_region_ord {id : Nat} {Q : Exit → Act → World → Prop} {a : Act} {w : World} {l : List Oper} (C : World → World → Prop) (hC : ∀ w, C w w) (hCd : C w w.drew) (ks : List Nat) (r : List Part) (hm : P.follows .mixedOrders = true)
    (hQ : ∀ c a d v w, Q (.panic c) (a.put d v) w → Q (.panic c) a w)
    (hB : ordB l (.q ks :: r) = true)
    (h : wpQuiet P l.toArray (C w) (fun a' => ∀ w', C w w' → wpParts P l C Q r a' w') (pick l ks) a) : (Code.region id l.toArray true).wp P Q a w := by
  simp only [ordB, Bool.and_eq_true, decide_eq_true_eq] at hB
  obtain ⟨⟨hsel, hs⟩, hB⟩ := hB
  refine wp_region_any hm ?_
  simp only [partB, Bool.and_eq_true, List.size_toArray] at hB
  obtain ⟨⟨_, hb⟩, hq⟩ := hB
  simp only [List.map_cons, List.sum_cons, Part.ks] at hs
  have H := wpAnyP_lex (md := .any) (C := C w) (D := [] ++ ks) (R := partB .any l.toArray (cloTab .any l) r ([] ++ ks)) hsel (fun listed' h' => partB_ready h') ks _ a (bars_of hb) ((pinv0 l).up (fun t ht => by cases ht)) hq h
  have := wpAny_of_headP (Q' := Q) (g := l.length - ks.length) (fun listed' a' w' hw' hL =>
    wpAny_of_parts hC hsel hQ r ([] ++ ks) listed' a' w' (l.length - ks.length) (by simp; omega) hL.1.2 hL.1.1 (hL.2 w' hw') (by simp only [Part.ks]; omega)) _ _ _ _ hCd H
  rw [show ks.length + (l.length - ks.length) = l.length by omega] at this
  simpa using this

theorem ord_reads {id : Nat} {Q : Exit → Act → World → Prop} {a : Act} {w : World} {l : List Oper} (ks : List Nat) (r : List Part) (hm : P.follows .mixedOrders = true) (hQ : ∀ c a d v w, Q (.panic c) (a.put d v) w → Q (.panic c) a w) (hB : ordB l (.q ks :: r) = true)
    (h : wpQuiet P l.toArray (fun w' => ∃ m, w' = w.drewN m) (fun a' => ∀ w', (∃ m, w' = w.drewN m) → wpParts P l CRead Q r a' w') (pick l ks) a) : (Code.region id l.toArray true).wp P Q a w :=
  wp_region_ord CRead (fun _ => ⟨0, rfl⟩) ⟨1, rfl⟩ ks r hm hQ hB h
theorem ord_makes {id : Nat} {Q : Exit → Act → World → Prop} {a : Act} {w : World} {l : List Oper} (ks : List Nat) (r : List Part) (hm : P.follows .mixedOrders = true) (hQ : ∀ c a d v w, Q (.panic c) (a.put d v) w → Q (.panic c) a w) (hB : ordB l (.q ks :: r) = true)
    (h : wpQuiet P l.toArray (fun w' => ∃ x : BX w, w' = x.w) (fun a' => ∀ w', (∃ x : BX w, w' = x.w) → wpParts P l CMake Q r a' w') (pick l ks) a) : (Code.region id l.toArray true).wp P Q a w :=
  wp_region_ord CMake (fun w => ⟨⟨w, Below.refl _ _⟩, rfl⟩) ⟨⟨w.drew, (Below.refl _ _).drew⟩, rfl⟩ ks r hm hQ hB h
end

section
variable {P : Program} {Q : Exit → Act → World → Prop} {r : List Part} {l : List Oper} {a : Act} {w : World} {ks : List Nat}
theorem part_nil {C : World → World → Prop} (h : Q .normal a w) : wpParts P l C Q [] a w := h
theorem part_hard {C : World → World → Prop} (h : wpList P l.toArray (segQ Q (fun a' w' => wpParts P l C Q r a' w')) (pick l ks) a w) : wpParts P l C Q (.h ks :: r) a w := h
theorem part_pure {C : World → World → Prop} (h : wpPure P l.toArray (fun a' => wpParts P l C Q r a' w) (pick l ks) a) : wpParts P l C Q (.p ks :: r) a w := h
theorem part_reads (h : wpQuiet P l.toArray (fun w' => ∃ m, w' = w.drewN m) (fun a' => ∀ w', (∃ m, w' = w.drewN m) → wpParts P l CRead Q r a' w') (pick l ks) a) : wpParts P l CRead Q (.q ks :: r) a w := h
theorem part_makes (h : wpQuiet P l.toArray (fun w' => ∃ x : BX w, w' = x.w) (fun a' => ∀ w', (∃ x : BX w, w' = x.w) → wpParts P l CMake Q r a' w') (pick l ks) a) : wpParts P l CMake Q (.q ks :: r) a w := h
end
end Go.Proofs.Ytngkhligjkcbmaa
