/- Sorting words: pdqsort; stores in any order (merged). -/
import Derived.StillTail
import Derived.Deep.Quiet
import Derived.BigQuiet
import Derived.Test.YtaefkelaffijbaaGreatDoorKfs
import Derived.Test.YtaefkelaffijbaaGreatDoorKfb
import Derived.Sort.AssemblyPlain
import Derived.Sort.LotD5
namespace Go.Proofs.YtaefkelaffijbaaGreatDoor
open Go.RowKit
section
variable {P : Program} {ops : Array Oper} {md : Region.Mode}

variable {C : World → Prop}

/-- A statement in a box. -/
structure SegBox (p : Prop) : Prop where
 out : p
/-- What follows at the normal end of a part. -/
def segQ (Q : Exit → Act → World → Prop) (K : Act → World → Prop) (e : Exit) (a : Act) (w : World) : Prop :=
 match e with
 | .normal => SegBox (K a w)
 | e => Q e a w
theorem segs_end {Q : Exit → Act → World → Prop} {K : Act → World → Prop} {a : Act} {w : World} (h : K a w) : segQ Q K .normal a w := ⟨h⟩

theorem letsOut_segQ {Q : Exit → Act → World → Prop} {K : Act → World → Prop} (h : LetsOut (segQ Q K)) : LetsOut Q := h
theorem wp_segQ {o : Oper} {a : Act} {w : World} {N K : Act → World → Prop} {Q : Exit → Act → World → Prop} (h : o.wp P a w N (segQ Q K)) : o.wp P a w N Q := by
 unfold Oper.wp at *
 generalize (execOp a.eval o).run P w = r at *
 cases r with
 | ok n w' =>
  cases n with
  | enter f args =>
   refine Calls.mono h fun e w'' h => ?_
   cases e <;> exact h
  | _ => exact h
 | halt hh w' =>
  cases hh <;> exact h
theorem wpOp_segQ {i : Nat} {a : Act} {w : World} {N K : Act → World → Prop} {Q : Exit → Act → World → Prop} (h : wpOp P ops (segQ Q K) i N a w) : wpOp P ops Q i N a w := by
 unfold wpOp at *
 split at h
 · exact h
 · split at h
   · rename_i hw
     rw [if_pos hw]
     exact h.imp wp_segQ (fun ⟨h1, h2⟩ => ⟨h1, letsOut_segQ h2⟩)
   · rename_i hw
     rw [if_neg hw]
     exact h

/-- Quiet parts that only read. -/
def CRead (w w' : World) : Prop := ∃ m, w' = w.drewN m
/-- Quiet parts whose calls change nothing that was there. -/
def CMake (w w' : World) : Prop := ∃ x : BX w, w' = x.w
end

section
variable {P : Program} {ops : Array Oper} {Q : Exit → Act → World → Prop} {r : List (Bool × Nat)} {l : List Oper} {a : Act} {w : World} {n : Nat}
end
section
variable {P : Program} {ops : Array Oper} {md : Region.Mode}

/-- For each operation those for which it waits. -/
def cloStep (md : Region.Mode) (tab : List (List Nat)) (o : Oper) : List Nat :=
 o.after.toList.foldr (fun e acc => if Region.binds md e then e.on :: ((tab[e.on]?.getD []) ++ acc) else acc) []
def cloTab (md : Region.Mode) (l : List Oper) : List (List Nat) := l.foldl (fun tab o => tab ++ [(cloStep md tab o).eraseDups]) []

/-- t waits for i, at once or through others. -/
inductive Waits (md : Region.Mode) (ops : Array Oper) : Nat → Nat → Prop
 | one {t i : Nat} {o : Oper} {e : Edge} (ho : ops[t]? = some o) (he : e ∈ o.after) (hb : Region.binds md e = true) (hi : e.on = i) : Waits md ops t i
 | more {t i : Nat} {o : Oper} {e : Edge} (ho : ops[t]? = some o) (he : e ∈ o.after) (hb : Region.binds md e = true) (h : Waits md ops e.on i) : Waits md ops t i

theorem cloStep_spec {tab : List (List Nat)} {o : Oper} {t : Nat} (ho : ops[t]? = some o) (ht : ∀ j, ∀ i ∈ tab[j]?.getD [], Waits md ops j i) : ∀ i ∈ cloStep md tab o, Waits md ops t i := by
 intro i hi
 unfold cloStep at hi
 have : ∀ (l : List Edge), (∀ e ∈ l, e ∈ o.after) → i ∈ l.foldr (fun e acc => if Region.binds md e then e.on :: ((tab[e.on]?.getD []) ++ acc) else acc) [] → Waits md ops t i := by
  intro l
  induction l with
  | nil => intro _ h; cases h
  | cons e l ih =>
   intro hl h
   rw [List.foldr_cons] at h
   split at h
   · rename_i hb
     rcases List.mem_cons.1 h with h | h
     · exact .one ho (hl e (by simp)) hb h.symm
     · rcases List.mem_append.1 h with h | h
       · exact .more ho (hl e (by simp)) hb (ht _ _ h)
       · exact ih (fun e he => hl e (by simp [he])) h
   · exact ih (fun e he => hl e (by simp [he])) h
 exact this _ (fun e he => by simpa using he) hi

theorem cloTab_spec (l : List Oper) : ∀ j, ∀ i ∈ (cloTab md l)[j]?.getD [], Waits md l.toArray j i := by
 have : ∀ (r : List Oper) (k : Nat) (tab : List (List Nat)), tab.length = k → (∀ j, r[j]? = l[k + j]?) → (∀ j, ∀ i ∈ tab[j]?.getD [], Waits md l.toArray j i) →
  ∀ j, ∀ i ∈ (r.foldl (fun tab o => tab ++ [(cloStep md tab o).eraseDups]) tab)[j]?.getD [], Waits md l.toArray j i := by
  intro r
  induction r with
  | nil => intro k tab _ _ h; exact h
  | cons o r ih =>
   intro k tab hk hr h
   rw [List.foldl_cons]
   refine ih (k + 1) _ (by simp [hk]) (fun j => by have := hr (j + 1); simpa [Nat.add_assoc, Nat.add_comm 1 j] using this) ?_
   intro j i hi
   rcases Nat.lt_trichotomy j tab.length with hj | hj | hj
   · rw [List.getElem?_append_left hj] at hi; exact h j i hi
   · subst hj
     rw [List.getElem?_append_right (Nat.le_refl _)] at hi
     simp only [Nat.sub_self, List.getElem?_cons_zero, Option.getD_some] at hi
     have h0 : l.toArray[tab.length]? = some o := by have := hr 0; simp only [List.getElem?_cons_zero, Nat.add_zero, ← hk] at this; simpa using this.symm
     exact cloStep_spec h0 h i (List.mem_eraseDups.1 hi)
   · rw [List.getElem?_eq_none (by simp; omega)] at hi; cases hi
 exact this l 0 [] rfl (fun j => by simp) (fun j i hi => by simp at hi)

/-- What is listed: closed, and nothing outside D. -/
structure PInv (md : Region.Mode) (ops : Array Oper) (D : List Nat) (listed : Array Bool) : Prop where
 size : listed.size = ops.size
 closed : ∀ j oj, ops[j]? = some oj → listed.getD j false = true → ∀ e ∈ oj.after, Region.binds md e = true → listed.getD e.on false = true
 out : ∀ t, t < ops.size → t ∉ D → listed.getD t true = false

theorem PInv.set {D : List Nat} {i : Nat} {listed : Array Bool} (inv : PInv md ops D listed) (hi : i ∈ Region.ready md ops listed) (hin : i ∈ D) : PInv md ops D (listed.setIfInBounds i true) := by
 obtain ⟨_, oi, hoi, hall⟩ := mem_ready.1 hi
 refine ⟨by simp [inv.size], fun j oj hj hl e he hb => ?_, fun t ht ht' => by rw [getD_set_ne true (by rintro rfl; exact ht' hin)]; exact inv.out t ht ht'⟩
 by_cases hij : i = j
 · subst hij
   have : oj = oi := Option.some.inj (hj.symm.trans hoi)
   subst this
   exact getD_set_true (hall e he hb)
 · rw [getD_set_ne false hij] at hl
   exact getD_set_true (inv.closed j oj hj hl e he hb)
theorem PInv.up {D E : List Nat} {listed : Array Bool} (h : PInv md ops D listed) (hs : ∀ t ∈ D, t ∈ E) : PInv md ops E listed := ⟨h.size, h.closed, fun t ht hn => h.out t ht (fun hd => hn (hs t hd))⟩

theorem waits_unlisted {D : List Nat} {listed : Array Bool} (inv : PInv md ops D listed) {t i : Nat} (h : Waits md ops t i) (hi : listed.getD i false = false) : listed.getD t false = false := by
 induction h with
 | one ho he hb hon =>
  rename_i t i o e
  cases hl : listed.getD t false with
  | false => rfl
  | true => have := inv.closed t o ho hl e he hb; rw [hon, hi] at this; cases this
 | more ho he hb h ih =>
  rename_i t i o e
  cases hl : listed.getD t false with
  | false => rfl
  | true => have := inv.closed t o ho hl e he hb; rw [ih hi] at this; cases this
theorem waits_not_ready {D : List Nat} {listed : Array Bool} (inv : PInv md ops D listed) {t i : Nat} (h : Waits md ops t i) (hi : listed.getD i false = false) : t ∉ Region.ready md ops listed := by
 intro hr
 obtain ⟨_, ot, hot, hall⟩ := mem_ready.1 hr
 cases h with
 | one ho he hb hon =>
  have := Option.some.inj (ho.symm.trans hot)
  subst this
  have := hall _ he hb
  rw [hon, hi] at this; cases this
 | more ho he hb h =>
  have := Option.some.inj (ho.symm.trans hot)
  subst this
  have := hall _ he hb
  rw [waits_unlisted inv h hi] at this; cases this

variable {C : World → Prop}

def wpAnyP (P : Program) (md : Region.Mode) (ops : Array Oper) (C : World → Prop) (D : List Nat) (L : Array Bool → Act → Prop) : Nat → Array Bool → Act → Prop
 | 0, listed, a => L listed a
 | f + 1, listed, a =>
  Region.ready md ops listed ≠ [] ∧ ∀ i ∈ Region.ready md ops listed, i ∈ D ∧ qOp P ops C i (wpAnyP P md ops C D L f (listed.setIfInBounds i true)) a

theorem wpAny_of_headP {D : List Nat} {g : Nat} {L : Array Bool → Act → Prop} {Q' : Exit → Act → World → Prop} (hL : ∀ listed a w, C w → L listed a → wpAny P md ops Q' g listed a w) :
 ∀ (f : Nat) (listed : Array Bool) (a : Act) (w : World), C w → wpAnyP P md ops C D L f listed a → wpAny P md ops Q' (f + g) listed a w
 | 0, listed, a, w, hw, h => by rw [Nat.zero_add]; exact hL _ _ _ hw h
 | f + 1, listed, a, w, hw, h => by
  rw [show f + 1 + g = (f + g) + 1 by omega]
  exact ⟨fun h0 => absurd h0 h.1, fun i hi => wpOp_of_qOp hw (fun a' w' hw' h' => wpAny_of_headP hL f _ a' w' hw' h') (h.2 i hi).2⟩

/-- All others wait for i. -/
def Bars (md : Region.Mode) (ops : Array Oper) (D : List Nat) (i : Nat) : Prop := ∀ t, t < ops.size → t ∉ D → Waits md ops t i

theorem wpAnyP_first {D : List Nat} {i : Nat} {oi : Oper} {v : Value} {L : Array Bool → Act → Prop} (hi : ops[i]? = some oi) (hsel : ∀ (j : Nat) (o : Oper) cs b, ops[j]? = some o → o.op ≠ .select cs b)
 (hb : Bars md ops D i) (hin : i ∈ D)
 (hdone : ∀ listed a, L listed a → ∀ j ∈ Region.ready md ops listed, j ∉ D) :
 ∀ (f : Nat) (listed : Array Bool) (a : Act), PInv md ops D listed →
  (∀ j oj, ops[j]? = some oj → j ≠ i → listed.getD j true = false → (∀ e ∈ oj.after, Region.binds md e = true → e.on ≠ i) → oi.apart ops oj = true) →
  i ∈ Region.ready md ops listed → YieldsIn P ops C oi v a →
  wpAnyP P md ops C D L f (listed.setIfInBounds i true) (a.put oi.dst v) → wpAnyP P md ops C D L (f + 1) listed a := by
 have hinD : ∀ (listed : Array Bool), PInv md ops D listed → listed.getD i true = false → ∀ j ∈ Region.ready md ops listed, j ∈ D := by
  intro listed inv hun j hj
  rcases Decidable.em (j ∈ D) with h | h
  · exact h
  · obtain ⟨_, oj, hoj, _⟩ := mem_ready.1 hj
    exact absurd hj (waits_not_ready inv (hb j (Array.getElem?_eq_some_iff.1 hoj).1 h) (getD_both hun))
 intro f
 induction f with
 | zero =>
  intro listed a inv _ hr hy H
  have hun := (mem_ready.1 hr).1
  refine ⟨fun h => (by rw [h] at hr; cases hr), fun j hj => ?_⟩
  have hjn := hinD listed inv hun j hj
  refine ⟨hjn, ?_⟩
  by_cases hji : j = i
  · subst hji; exact hy.qOp hi H
  · exact absurd hjn (hdone _ _ H j (ready_mono hj hji))
 | succ f ih =>
  intro listed a inv hfree hr hy H
  have hun := (mem_ready.1 hr).1
  refine ⟨fun h => (by rw [h] at hr; cases hr), fun j hj => ?_⟩
  have hjn := hinD listed inv hun j hj
  refine ⟨hjn, ?_⟩
  by_cases hji : j = i
  · subst hji; exact hy.qOp hi H
  · have h1 := (H.2 j (ready_mono hj hji)).2
    obtain ⟨hjun, oj, hoj, hall⟩ := mem_ready.1 hj
    have hnot : ∀ e ∈ oj.after, Region.binds md e = true → e.on ≠ i := fun e he hb heq => by
     have h1 := hall e he hb
     rw [heq, getD_both hun] at h1
     cases h1
    have h2 := qOp_put hoj (hfree j oj hoj hji hjun hnot) (fun cs b => hsel i oi cs b hi) (fun cs b => hsel j oj cs b hoj) hy h1
    have hfree' : ∀ k ok, ops[k]? = some ok → k ≠ i → (listed.setIfInBounds j true).getD k true = false →
     (∀ e ∈ ok.after, Region.binds md e = true → e.on ≠ i) → oi.apart ops ok = true := fun k ok hk hki hun hno => by
     refine hfree k ok hk hki ?_ hno
     by_cases hjk : j = k
     · subst hjk; exact hjun
     · rw [getD_set_ne true hjk] at hun; exact hun
    refine qOp_mono (fun a' h3 => ih (listed.setIfInBounds j true) a' (inv.set hj hjn) hfree' (ready_mono hr (Ne.symm hji)) h3.1 ?_) h2
    rw [Array.setIfInBounds_comm _ _ hji]
    exact h3.2

def quietP (md : Region.Mode) (ops : Array Oper) (rest : Array Bool → Bool) : List Nat → Array Bool → Bool
 | [], listed => rest listed
 | k :: ks, listed => (Region.ready md ops listed).contains k && Region.free md ops listed k && quietP md ops rest ks (listed.setIfInBounds k true)
def seqP (md : Region.Mode) (ops : Array Oper) (rest : Array Bool → Bool) : List Nat → Array Bool → Bool
 | [], listed => rest listed
 | k :: ks, listed => decide (Region.ready md ops listed = [k]) && seqP md ops rest ks (listed.setIfInBounds k true)
/-- A part of a region: quiet, in the order given (hard), or without a look at the world (pure). -/
inductive Part
 | q (ks : List Nat)
 | h (ks : List Nat)
 | p (ks : List Nat)
def Part.ks : Part → List Nat
 | .q ks | .h ks | .p ks => ks
def barP (tab : List (List Nat)) (n : Nat) (D ks : List Nat) : Bool := (List.range n).all fun t => D.contains t || ks.all fun i => (tab[t]?.getD []).contains i
def partB (md : Region.Mode) (ops : Array Oper) (tab : List (List Nat)) : List Part → List Nat → Array Bool → Bool
 | [], D, listed => D.all (fun t => listed.getD t false) && decide (D.length = ops.size) && (Region.ready md ops listed).isEmpty
 | .q ks :: r, D, listed => D.all (fun t => listed.getD t false) && barP tab ops.size (D ++ ks) ks && quietP md ops (partB md ops tab r (D ++ ks)) ks listed
 | .h ks :: r, D, listed => D.all (fun t => listed.getD t false) && seqP md ops (partB md ops tab r (D ++ ks)) ks listed
 | .p ks :: r, D, listed => D.all (fun t => listed.getD t false) && quietP md ops (partB md ops tab r (D ++ ks)) ks listed

theorem partB_all {tab : List (List Nat)} {r : List Part} {D : List Nat} {listed : Array Bool} (h : partB md ops tab r D listed = true) : D.all (fun t => listed.getD t false) = true := by
 rcases r with _ | ⟨⟨ks⟩ | ⟨ks⟩ | ⟨ks⟩, r⟩ <;> simp only [partB, Bool.and_eq_true] at h
 · exact h.1.1
 · exact h.1.1
 · exact h.1
 · exact h.1
theorem partB_ready {tab : List (List Nat)} {r : List Part} {D : List Nat} {listed : Array Bool} (h : partB md ops tab r D listed = true) : ∀ j ∈ Region.ready md ops listed, j ∉ D := by
 intro j hj hD
 have h1 := List.all_eq_true.1 (partB_all h) j hD
 rw [getD_both (mem_ready.1 hj).1] at h1
 cases h1

def pick (l : List Oper) (ks : List Nat) : List Oper := ks.filterMap (l[·]?)
@[simp] theorem pick_nil (l : List Oper) : pick l [] = [] := rfl
theorem pick_cons {l : List Oper} {k : Nat} {ks : List Nat} {o : Oper} (h : l[k]? = some o) : pick l (k :: ks) = o :: pick l ks := by simp [pick, h]

/-- Operations that do not look at the world. -/
def wpPure (P : Program) (ops : Array Oper) (K : Act → Prop) : List Oper → Act → Prop
 | [], a => K a
 | o :: l, a => ∃ v, Yields P ops o v a ∧ wpPure P ops K l (a.put o.dst v)
theorem pure_nil {K : Act → Prop} {a : Act} (h : K a) : wpPure P ops K [] a := h
theorem pure_cons {K : Act → Prop} {o : Oper} {l : List Oper} {a : Act} {v : Value} (h1 : Region.wanted o (yielded ops a.tmps) = true) (h2 : ∀ w, (execOp a.eval o).run P w = .ok (.value v) w) (h : wpPure P ops K l (a.put o.dst v)) : wpPure P ops K (o :: l) a := ⟨v, .inl ⟨h1, h2⟩, h⟩
theorem pure_skip {K : Act → Prop} {o : Oper} {l : List Oper} {a : Act} (h1 : Region.wanted o (yielded ops a.tmps) = false) (h : wpPure P ops K l (a.put o.dst undef)) : wpPure P ops K (o :: l) a := ⟨undef, .inr ⟨h1, rfl⟩, h⟩

def wpParts (P : Program) (l : List Oper) (C : World → World → Prop) (Q : Exit → Act → World → Prop) : List Part → Act → World → Prop
 | [], a, w => Q .normal a w
 | .q ks :: r, a, w => wpQuiet P l.toArray (C w) (fun a' => ∀ w', C w w' → wpParts P l C Q r a' w') (pick l ks) a
 | .h ks :: r, a, w => wpList P l.toArray (segQ Q (fun a' w' => wpParts P l C Q r a' w')) (pick l ks) a w
 | .p ks :: r, a, w => wpPure P l.toArray (fun a' => wpParts P l C Q r a' w) (pick l ks) a

theorem quietP_some {l : List Oper} {_rest : Array Bool → Bool} {k : Nat} {_ks : List Nat} {listed : Array Bool} (h : k ∈ Region.ready md l.toArray listed) : ∃ o, l[k]? = some o := by
 obtain ⟨_, o, ho, _⟩ := mem_ready.1 h
 exact ⟨o, by simpa using ho⟩

theorem wpAnyP_lex {l : List Oper} {D : List Nat} {R : Array Bool → Bool} {Lq : Act → Prop} (hsel : Region.noSelect l.toArray = true)
 (hR : ∀ listed, R listed = true → ∀ j ∈ Region.ready md l.toArray listed, j ∉ D) :
 ∀ (ks : List Nat) (listed : Array Bool) (a : Act), (∀ k ∈ ks, k ∈ D ∧ Bars md l.toArray D k) → PInv md l.toArray D listed →
 quietP md l.toArray R ks listed = true → wpQuiet P l.toArray C Lq (pick l ks) a →
 wpAnyP P md l.toArray C D (fun listed' a' => (R listed' = true ∧ PInv md l.toArray D listed') ∧ Lq a') ks.length listed a
 | [], listed, a, _, inv, hB, h => ⟨⟨by simpa [quietP] using hB, inv⟩, h⟩
 | k :: ks, listed, a, hD, inv, hB, h => by
  simp only [quietP, Bool.and_eq_true] at hB
  obtain ⟨⟨hr, hf⟩, hB'⟩ := hB
  have hr' : k ∈ Region.ready md l.toArray listed := by simpa using hr
  obtain ⟨o, ho⟩ := quietP_some (_rest := R) (_ks := ks) hr'
  have h0 : l.toArray[k]? = some o := by simpa using ho
  rw [pick_cons ho] at h
  have hst : qOp P l.toArray C k (wpQuiet P l.toArray C Lq (pick l ks)) a := by unfold qOp; simp only [h0]; exact h
  obtain ⟨v, hy, hK⟩ := yieldsIn_of_qOp h0 hst
  obtain ⟨hkD, hkb⟩ := hD k (by simp)
  exact wpAnyP_first h0 (Region.noSelect_spec hsel) hkb hkD (fun listed' a' hL => hR _ hL.1.1) ks.length listed a inv (Region.free_spec h0 hf) hr' hy
   (wpAnyP_lex hsel hR ks _ _ (fun k' hk' => hD k' (by simp [hk'])) (inv.set hr' hkD) hB' hK)

theorem wpAny_of_seqP {l : List Oper} {D : List Nat} {R : Array Bool → Bool} {Q' : Exit → Act → World → Prop} {K : Act → World → Prop} {g : Nat}
 (hR : ∀ listed a w, PInv md l.toArray D listed → R listed = true → K a w → wpAny P md l.toArray Q' g listed a w) :
 ∀ (ks : List Nat) (listed : Array Bool) (a : Act) (w : World), (∀ k ∈ ks, k ∈ D) → PInv md l.toArray D listed →
 seqP md l.toArray R ks listed = true → wpList P l.toArray (segQ Q' K) (pick l ks) a w → wpAny P md l.toArray Q' (ks.length + g) listed a w
 | [], listed, a, w, _, inv, hB, h => by
  rw [List.length_nil, Nat.zero_add]
  exact hR _ _ _ inv (by simpa [seqP] using hB) h.out
 | k :: ks, listed, a, w, hD, inv, hB, h => by
  simp only [seqP, Bool.and_eq_true, decide_eq_true_eq] at hB
  have hr' : k ∈ Region.ready md l.toArray listed := by rw [hB.1]; simp
  obtain ⟨o, ho⟩ := quietP_some (_rest := R) (_ks := ks) hr'
  have h0 : l.toArray[k]? = some o := by simpa using ho
  rw [pick_cons ho] at h
  rw [List.length_cons, show ks.length + 1 + g = (ks.length + g) + 1 by omega]
  refine ⟨fun h1 => (by rw [hB.1] at h1; cases h1), fun i hi => ?_⟩
  have hik : i = k := by rw [hB.1] at hi; simpa using hi
  subst hik
  have hw : wpOp P l.toArray (segQ Q' K) i (wpList P l.toArray (segQ Q' K) (pick l ks)) a w := by unfold wpOp; simp only [h0]; exact h
  exact wpOp_mono (fun a' w' h' => wpAny_of_seqP hR ks _ a' w' (fun k' hk' => hD k' (by simp [hk'])) (inv.set hr' (hD i (by simp))) hB.2 h') (wpOp_segQ hw)

theorem wpAny_of_pure {l : List Oper} {R : Array Bool → Bool} {Q' : Exit → Act → World → Prop} {K : Act → Prop} {g : Nat} {w : World} {D : List Nat} (hsel : Region.noSelect l.toArray = true)
 (hQ : ∀ c a d v w, Q' (.panic c) (a.put d v) w → Q' (.panic c) a w)
 (hR : ∀ listed a, PInv md l.toArray D listed → R listed = true → K a → wpAny P md l.toArray Q' g listed a w) :
 ∀ (ks : List Nat) (listed : Array Bool) (a : Act), (∀ k ∈ ks, k ∈ D) → PInv md l.toArray D listed →
 quietP md l.toArray R ks listed = true → wpPure P l.toArray K (pick l ks) a → wpAny P md l.toArray Q' (ks.length + g) listed a w
 | [], listed, a, _, inv, hB, h => by
  rw [List.length_nil, Nat.zero_add]
  exact hR _ _ inv (by simpa [quietP] using hB) h
 | k :: ks, listed, a, hD, inv, hB, h => by
  simp only [quietP, Bool.and_eq_true] at hB
  obtain ⟨⟨hr, hf⟩, hB'⟩ := hB
  have hr' : k ∈ Region.ready md l.toArray listed := by simpa using hr
  obtain ⟨o, ho⟩ := quietP_some (_rest := R) (_ks := ks) hr'
  have h0 : l.toArray[k]? = some o := by simpa using ho
  rw [pick_cons ho] at h
  obtain ⟨v, hy, h⟩ := h
  rw [List.length_cons, show ks.length + 1 + g = (ks.length + g) + 1 by omega]
  exact wpAny_first h0 (Region.noSelect_spec hsel) (fun c a w h => hQ c a _ _ w h) (ks.length + g) listed a w (Region.free_spec h0 hf) hr' hy
   (wpAny_of_pure hsel hQ hR ks _ _ (fun k' hk' => hD k' (by simp [hk'])) (inv.set hr' (hD k (by simp))) hB' h)

theorem bars_of {l : List Oper} {D ks : List Nat} (hb : barP (cloTab md l) l.length (D ++ ks) ks = true) : ∀ k ∈ ks, k ∈ D ++ ks ∧ Bars md l.toArray (D ++ ks) k := by
 intro k hk
 refine ⟨by simp [hk], fun t ht hnt => ?_⟩
 have h1 := List.all_eq_true.1 hb t (List.mem_range.2 (by simpa using ht))
 simp only [Bool.or_eq_true, List.contains_iff_mem] at h1
 rcases h1 with h1 | h1
 · exact absurd h1 hnt
 · have h2 := List.all_eq_true.1 h1 k hk
   rw [List.contains_iff_mem] at h2
   exact cloTab_spec l t k h2

theorem wpAny_of_parts {C : World → World → Prop} (hC : ∀ w, C w w) {l : List Oper} {Q : Exit → Act → World → Prop} (hsel : Region.noSelect l.toArray = true) (hQ : ∀ c a d v w, Q (.panic c) (a.put d v) w → Q (.panic c) a w) :
 ∀ (r : List Part) (D : List Nat) (listed : Array Bool) (a : Act) (w : World) (n : Nat), D.length + n = l.length → PInv md l.toArray D listed → partB md l.toArray (cloTab md l) r D listed = true →
 wpParts P l C Q r a w → (r.map (·.ks.length)).sum = n → wpAny P md l.toArray Q n listed a w
 | [], D, listed, a, w, n, hn, inv, hB, h, hs => by
  simp only [partB, Bool.and_eq_true, decide_eq_true_eq, List.isEmpty_iff, List.size_toArray] at hB
  obtain rfl : n = 0 := by simpa using hs.symm
  exact ⟨hB.2, h⟩
 | .q ks :: r, D, listed, a, w, n, hn, inv, hB, h, hs => by
  simp only [partB, Bool.and_eq_true, List.size_toArray] at hB
  obtain ⟨⟨_, hb⟩, hq⟩ := hB
  simp only [List.map_cons, List.sum_cons, Part.ks] at hs
  have H := wpAnyP_lex (md := md) (C := C w) (D := D ++ ks) (R := partB md l.toArray (cloTab md l) r (D ++ ks)) hsel (fun listed' h' => partB_ready h') ks listed a (bars_of hb) (inv.up (fun t ht => by simp [ht])) hq h
  have := wpAny_of_headP (Q' := Q) (g := n - ks.length) (fun listed' a' w' hw' hL =>
   wpAny_of_parts hC hsel hQ r (D ++ ks) listed' a' w' (n - ks.length) (by rw [List.length_append]; omega) hL.1.2 hL.1.1 (hL.2 w' hw') (by simp only [Part.ks]; omega)) _ _ _ _ (hC w) H
  rw [show ks.length + (n - ks.length) = n by omega] at this
  exact this
 | .h ks :: r, D, listed, a, w, n, hn, inv, hB, h, hs => by
  simp only [partB, Bool.and_eq_true] at hB
  simp only [List.map_cons, List.sum_cons, Part.ks] at hs
  have := wpAny_of_seqP (md := md) (D := D ++ ks) (R := partB md l.toArray (cloTab md l) r (D ++ ks)) (Q' := Q) (K := fun a' w' => wpParts P l C Q r a' w') (g := n - ks.length)
   (fun listed' a' w' inv' hR h2 => wpAny_of_parts hC hsel hQ r (D ++ ks) listed' a' w' (n - ks.length) (by rw [List.length_append]; omega) inv' hR h2 (by simp only [Part.ks]; omega))
   ks listed a w (fun k hk => by simp [hk]) (inv.up (fun t ht => by simp [ht])) hB.2 h
  rw [show ks.length + (n - ks.length) = n by omega] at this
  exact this
 | .p ks :: r, D, listed, a, w, n, hn, inv, hB, h, hs => by
  simp only [partB, Bool.and_eq_true] at hB
  simp only [List.map_cons, List.sum_cons, Part.ks] at hs
  have := wpAny_of_pure (md := md) (D := D ++ ks) (R := partB md l.toArray (cloTab md l) r (D ++ ks)) (Q' := Q) (K := fun a' => wpParts P l C Q r a' w) (g := n - ks.length) hsel hQ
   (fun listed' a' inv' hR h2 => wpAny_of_parts hC hsel hQ r (D ++ ks) listed' a' w (n - ks.length) (by rw [List.length_append]; omega) inv' hR h2 (by simp only [Part.ks]; omega))
   ks listed a (fun k hk => by simp [hk]) (inv.up (fun t ht => by simp [ht])) hB.2 h
  rw [show ks.length + (n - ks.length) = n by omega] at this
  exact this

/-- The test of a region's edges for an order of parts. -/
def ordB (l : List Oper) (r : List Part) : Bool :=
 Region.noSelect l.toArray && decide ((r.map (·.ks.length)).sum = l.length) && partB .any l.toArray (cloTab .any l) r [] (Array.replicate l.length false)

theorem pinv0 (l : List Oper) : PInv .any l.toArray [] (Array.replicate l.length false) :=
 ⟨by simp, fun j oj _ hl => (by rw [getD_replicate_false] at hl; cases hl), fun t ht _ => getD_in (by simpa using ht) (getD_replicate_false _ _)⟩

theorem wp_region_ord {id : Nat} {Q : Exit → Act → World → Prop} {a : Act} {w : World} {l : List Oper} (C : World → World → Prop) (hC : ∀ w, C w w) (hCd : C w w.drew) (ks : List Nat) (r : List Part) (hm : P.follows .mixedOrders = true)
 (hQ : ∀ c a d v w, Q (.panic c) (a.put d v) w → Q (.panic c) a w)
 (hB : ordB l (.q ks :: r) = true)
 (h : wpQuiet P l.toArray (C w) (fun a' => ∀ w', C w w' → wpParts P l C Q r a' w') (pick l ks) a) : (Code.region id l.toArray true).wp P Q a w := by
 simp only [ordB, Bool.and_eq_true, decide_eq_true_eq] at hB
 obtain ⟨⟨hsel, hs⟩, hB⟩ := hB
 refine wp_region_any hm ?_
 simp only [partB, Bool.and_eq_true, List.size_toArray] at hB
 obtain ⟨⟨_, hb⟩, hq⟩ := hB
 simp only [List.map_cons, List.sum_cons, Part.ks] at hs
 have H := wpAnyP_lex (md := .any) (C := C w) (D := [] ++ ks) (R := partB .any l.toArray (cloTab .any l) r ([] ++ ks)) hsel (fun listed' h' => partB_ready h') ks _ a (bars_of hb) ((pinv0 l).up (fun t ht => by cases ht)) hq h
 have := wpAny_of_headP (Q' := Q) (g := l.length - ks.length) (fun listed' a' w' hw' hL =>
  wpAny_of_parts hC hsel hQ r ([] ++ ks) listed' a' w' (l.length - ks.length) (by simp; omega) hL.1.2 hL.1.1 (hL.2 w' hw') (by simp only [Part.ks]; omega)) _ _ _ _ hCd H
 rw [show ks.length + (l.length - ks.length) = l.length by omega] at this
 simpa using this

theorem ord_reads {id : Nat} {Q : Exit → Act → World → Prop} {a : Act} {w : World} {l : List Oper} (ks : List Nat) (r : List Part) (hm : P.follows .mixedOrders = true) (hQ : ∀ c a d v w, Q (.panic c) (a.put d v) w → Q (.panic c) a w) (hB : ordB l (.q ks :: r) = true)
 (h : wpQuiet P l.toArray (fun w' => ∃ m, w' = w.drewN m) (fun a' => ∀ w', (∃ m, w' = w.drewN m) → wpParts P l CRead Q r a' w') (pick l ks) a) : (Code.region id l.toArray true).wp P Q a w :=
 wp_region_ord CRead (fun _ => ⟨0, rfl⟩) ⟨1, rfl⟩ ks r hm hQ hB h
theorem ord_makes {id : Nat} {Q : Exit → Act → World → Prop} {a : Act} {w : World} {l : List Oper} (ks : List Nat) (r : List Part) (hm : P.follows .mixedOrders = true) (hQ : ∀ c a d v w, Q (.panic c) (a.put d v) w → Q (.panic c) a w) (hB : ordB l (.q ks :: r) = true)
 (h : wpQuiet P l.toArray (fun w' => ∃ x : BX w, w' = x.w) (fun a' => ∀ w', (∃ x : BX w, w' = x.w) → wpParts P l CMake Q r a' w') (pick l ks) a) : (Code.region id l.toArray true).wp P Q a w :=
 wp_region_ord CMake (fun w => ⟨⟨w, Below.refl _ _⟩, rfl⟩) ⟨⟨w.drew, (Below.refl _ _).drew⟩, rfl⟩ ks r hm hQ hB h
end

section
variable {P : Program} {Q : Exit → Act → World → Prop} {r : List Part} {l : List Oper} {a : Act} {w : World} {ks : List Nat}
theorem part_nil {C : World → World → Prop} (h : Q .normal a w) : wpParts P l C Q [] a w := h
theorem part_hard {C : World → World → Prop} (h : wpList P l.toArray (segQ Q (fun a' w' => wpParts P l C Q r a' w')) (pick l ks) a w) : wpParts P l C Q (.h ks :: r) a w := h
theorem part_pure {C : World → World → Prop} (h : wpPure P l.toArray (fun a' => wpParts P l C Q r a' w) (pick l ks) a) : wpParts P l C Q (.p ks :: r) a w := h
theorem part_reads (h : wpQuiet P l.toArray (fun w' => ∃ m, w' = w.drewN m) (fun a' => ∀ w', (∃ m, w' = w.drewN m) → wpParts P l CRead Q r a' w') (pick l ks) a) : wpParts P l CRead Q (.q ks :: r) a w := h
theorem part_makes (h : wpQuiet P l.toArray (fun w' => ∃ x : BX w, w' = x.w) (fun a' => ∀ w', (∃ x : BX w, w' = x.w) → wpParts P l CMake Q r a' w') (pick l ks) a) : wpParts P l CMake Q (.q ks :: r) a w := h
end
theorem pure_ex {P : Program} {ops : Array Oper} {K : Act → Prop} {o : Oper} {l : List Oper} {a : Act} (h1 : Region.wanted o (yielded ops a.tmps) = true) (h : ∃ v, (∀ w, (execOp a.eval o).run P w = .ok (.value v) w) ∧ wpPure P ops K l (a.put o.dst v)) : wpPure P ops K (o :: l) a := by
 obtain ⟨v, h2, h⟩ := h
 exact ⟨v, .inl ⟨h1, h2⟩, h⟩
set_option linter.unusedVariables false
theorem Sl.word {w : World} {g off n c : Nat} {ys : List Int} (h : Sl 34 1 w (some ⟨g, off, none⟩) n c (uints ys)) {k : Nat} (hk : k < ys.length) : w.cell? ⟨g, off + k, none⟩ = some (.int .u64 (gt0 ys k)) := by
 obtain ⟨g', o', hA, hl, hc⟩ := h.at_ (j := k) (by simpa [uints] using hk)
 injection hA with hA
 injection hA with h1 h2
 subst h1 h2
 rw [hc, gt0_eq hk]; simp [uints]
theorem Sl.block_lt {w : World} {g off n c : Nat} {xs : List Value} (h : Sl 34 1 w (some ⟨g, off, none⟩) n c xs) : g < w.heap.size := by
 rcases h.2 with ⟨hx, _⟩ | ⟨g', o', cur, hA, hC, _⟩
 · cases hx
 · have : g = g' := by cases hA; rfl
   subst this
   exact hC.lt
theorem Sl.swapW {w : World} {g off n c : Nat} {ys : List Int} (h : Sl 34 1 w (some ⟨g, off, none⟩) n c (uints ys)) {i j : Nat} (hi : i < ys.length) (hj : j < ys.length) :
 Sl 34 1 ((w.setCell ⟨g, off + i, none⟩ (.int .u64 (gt0 ys j))).setCell ⟨g, off + j, none⟩ (.int .u64 (gt0 ys i))) (some ⟨g, off, none⟩) n c (uints (swL ys i j)) := by
 have h1 := h.set (j := i) (by simpa [uints] using hi) (.int .u64 (gt0 ys j))
 have h2 := h1.set (j := j) (by simpa [uints] using hj) (.int .u64 (gt0 ys i))
 have e : uints (swL ys i j) = ((uints ys).set i (.int .u64 (gt0 ys j))).set j (.int .u64 (gt0 ys i)) := by simp [uints, swL, List.map_set]
 rw [e]; exact h2
/-- Words in a slice, in another order between a and b; only the slice's block has changed. -/
def SrtI (w : World) (g off n c a b : Nat) (xs ys : List Int) (wr : World) : Prop := Sl 34 1 wr (some ⟨g, off, none⟩) n c (uints ys) ∧ PO a b xs ys ∧ Ch (At g) w wr
theorem SrtI.drewN {w : World} {g off n c a b : Nat} {xs ys : List Int} {wr : World} (h : SrtI w g off n c a b xs ys wr) (q : Nat) : SrtI w g off n c a b xs ys (wr.drewN q) := ⟨h.1.keep (fun _ _ => rfl), h.2.1, h.2.2.drewN q⟩
theorem SrtI.swap {w : World} {g off n c a b : Nat} {xs ys : List Int} {wr : World} (h : SrtI w g off n c a b xs ys wr) {i j : Nat} (hi : a ≤ i ∧ i < b) (hj : a ≤ j ∧ j < b) (hb : b ≤ xs.length) :
 SrtI w g off n c a b xs (swL ys i j) ((wr.setCell ⟨g, off + i, none⟩ (.int .u64 (gt0 ys j))).setCell ⟨g, off + j, none⟩ (.int .u64 (gt0 ys i))) := by
 have hl := h.2.1.len
 exact ⟨h.1.swapW (by omega) (by omega), h.2.1.swap hi hj hb, (h.2.2.set1 _ _).set1 _ _⟩
set_option linter.unusedSimpArgs false
/-- How many cells a block has. -/
def bsz (w : World) (g : Nat) : Nat := match w.heap[g]? with | some (.cells cs _ _) => cs.size | _ => 0
theorem bsz_cb {w : World} {g : Nat} {e : TypeId} {cs : Array Value} (h : CB w g e cs) : bsz w g = cs.size := by unfold bsz; rw [show w.heap[g]? = _ from h]
theorem bsz_keep {w w' : World} {g : Nat} (h : w'.heap[g]? = w.heap[g]?) : bsz w' g = bsz w g := by unfold bsz; rw [h]
/-- The slice holds the words of d; only its block has changed, and not its size. -/
def SoA (w : World) (g off n c : Nat) (d : Array Int) (wr : World) : Prop := Sl 34 1 wr (some ⟨g, off, none⟩) n c (uints d.toList) ∧ d.size = n ∧ Ch (At g) w wr ∧ bsz wr g = bsz w g
section
variable {w wr : World} {g off n c i j : Nat} {d : Array Int}
theorem bang_gt0 (d : Array Int) (i : Nat) : d[i]! = gt0 d.toList i := by
 unfold gt0
 by_cases h : i < d.size
 · rw [getElem!_pos d i h, List.getD_eq_getElem?_getD, List.getElem?_eq_getElem (by simpa using h)]; simp
 · rw [getElem!_neg d i h, List.getD_eq_getElem?_getD, List.getElem?_eq_none (by simpa using h)]; rfl
theorem SoA.word (h : SoA w g off n c d wr) (hi : i < n) : wr.cell? ⟨g, off + i, none⟩ = some (.int .u64 d[i]!) := by
 rw [bang_gt0]
 exact h.1.word (by rw [Array.length_toList, h.2.1]; exact hi)
theorem SoA.lt (h : SoA w g off n c d wr) : g < wr.heap.size := h.1.block_lt
theorem SoA.drewN (h : SoA w g off n c d wr) (q : Nat) : SoA w g off n c d (wr.drewN q) := ⟨h.1.keep (fun _ _ => rfl), h.2.1, h.2.2.1.drewN q, (bsz_keep rfl).trans h.2.2.2⟩
theorem SoA.bl (h : SoA w g off n c d wr) {w' : World} (hB : Below wr.heap.size wr w') : SoA w g off n c d w' := ⟨h.1.keep (fun b hb => hB.block b (h.1.lt hb)), h.2.1, h.2.2.1.trans (Ch.of_below (S := fun _ => False) hB) (fun _ hx _ => hx.elim), (bsz_keep (hB.block g h.lt)).trans h.2.2.2⟩
theorem size_swp (d : Array Int) (i j : Nat) : (Sort.swp d i j).size = d.size := by unfold Sort.swp; simp
theorem toList_swp (d : Array Int) (i j : Nat) : (Sort.swp d i j).toList = swL d.toList i j := by
 unfold Sort.swp swL
 rw [← bang_gt0, ← bang_gt0]
 simp
theorem SoA.swap (h : SoA w g off n c d wr) (hi : i < n) (hj : j < n) : SoA w g off n c (Sort.swp d i j) ((wr.setCell ⟨g, off + i, none⟩ (.int .u64 d[j]!)).setCell ⟨g, off + j, none⟩ (.int .u64 d[i]!)) := by
 have hl : d.toList.length = n := by rw [Array.length_toList]; exact h.2.1
 refine ⟨?_, by rw [size_swp]; exact h.2.1, (h.2.2.1.set1 _ _).set1 _ _, ?_⟩
 case refine_2 =>
  rcases h.1.2 with ⟨hx, _⟩ | ⟨g', o', cur, hA, hC, _⟩
  · cases hx
  · obtain rfl : g = g' := by cases hA; rfl
    rw [bsz_cb ((hC.set (off + i) (.int .u64 d[j]!)).set (off + j) (.int .u64 d[i]!)), ← h.2.2.2, bsz_cb hC]
    simp
 rw [toList_swp, bang_gt0, bang_gt0]
 exact h.1.swapW (by omega) (by omega)
end
/-- What a function of the sort leaves. -/
def SoP (w : World) (g off n c : Nat) (D : Array Int) (e : Ending) (w' : World) : Prop := e = .returned (.tuple #[]) ∧ SoA w g off n c D w'
theorem insOuter_go {lt : Int → Int → Bool} {a b k : Nat} {d : Array Int} (h : k < b) : Sort.insOuter lt a b k d = Sort.insOuter lt a b (k + 1) (Sort.insInner lt a k d) := by
 rw [Sort.insOuter, if_pos h]
theorem insOuter_end {lt : Int → Int → Bool} {a b k : Nat} {d : Array Int} (h : ¬ k < b) : Sort.insOuter lt a b k d = d := by
 rw [Sort.insOuter, if_neg h]
theorem insInner_go {lt : Int → Int → Bool} {a j : Nat} {d : Array Int} (h : a < j + 1) (hl : lt d[j + 1]! d[j]! = true) : Sort.insInner lt a (j + 1) d = Sort.insInner lt a j (Sort.swp d (j + 1) j) := by
 rw [Sort.insInner, if_pos (by simp [hl]; omega)]
theorem insInner_end {lt : Int → Int → Bool} {a j : Nat} {d : Array Int} (h : lt d[j + 1]! d[j]! = false) : Sort.insInner lt a (j + 1) d = d := by
 rw [Sort.insInner, if_neg (by simp [h])]
theorem insInner_at {lt : Int → Int → Bool} {a : Nat} {d : Array Int} : Sort.insInner lt a a d = d := by
 cases a with
 | zero => rfl
 | succ a => rw [Sort.insInner, if_neg (by simp)]
set_option maxRecDepth 100000 in
set_option maxHeartbeats 4000000 in
theorem insU_x (w0 w : World) (g off n c a b : Nat) (d0 : Array Int) (hab : a < b) (hbn : b ≤ n) (hm : n ≤ 1000000) (hS : SoA w0 g off n c d0 w) :
 Calls Tryz.prog 116 #[.slice (some ⟨g, off, none⟩) n c, .int .i64 (a : Int), .int .i64 (b : Int)] w (SoP w0 g off n c (Sort.insertionSort Sort.ltInt d0 a b)) := by
 have HI0 := Lib.hid hS
 obtain ⟨D, hD⟩ : ∃ D, Sort.insertionSort Sort.ltInt d0 a b = D := ⟨_, rfl⟩
 have HD : Hid (Sort.insOuter Sort.ltInt a b (a + 1) d0 = D) := hD
 rw [hD]
 clear hS hD
 have ea : IntKind.i64.wrap ((a : Int) + 1) = ((a + 1 : Nat) : Int) := by rw [IntWalk.i64_in _ (by omega)]; omega
 go_enter Tryz.func116, Tryz.ntmps116
 go_wp2
 go_loopw [6, 7, 10, 11, 12, 13, 14, 15, 16, 17, 18, 19, 20, 21, 22, 23, 24, 25, 26, 27, 28, 29, 30, 31, 32, 33, 34, 35, 36, 37, 38, 39, 40, 41, 42, 43, 44, 45, 46, 47, 48] (fun i _ _ _ _ _ _ _ _ _ _ _ _ _ _ _ _ _ _ _ _ _ _ _ _ _ _ _ _ _ _ _ _ _ _ _ _ _ _ _ _ wr => ∃ (k : Nat) (ys : Array Int), a < k ∧ k ≤ b ∧ i = .int .i64 (k : Int) ∧ SoA w0 g off n c ys wr ∧ Sort.insOuter Sort.ltInt a b k ys = D) (fun i _ _ _ _ _ _ _ _ _ _ _ _ _ _ _ _ _ _ _ _ _ _ _ _ _ _ _ _ _ _ _ _ _ _ _ _ _ _ _ _ _ => b - (intOf i).toNat)
 case atStart => exact ⟨a + 1, d0, by omega, by omega, by go_num, HI0.out, HD.out⟩
 case round =>
  clear HI0 HD
  obtain ⟨k, ys, hk1, hk, rfl, hI, hSo⟩ := hrel
  have HI := Lib.hid hI
  have HSO := Lib.hid hSo
  clear hI hSo
  by_cases hlt : k < b
  · have hlt' : (k : Int) < (b : Int) := by omega
    have ek : IntKind.i64.wrap ((k : Int) + 1) = ((k + 1 : Nat) : Int) := by rw [IntWalk.i64_in _ (by omega)]; omega
    go_wp2
    go_loopw [7, 16, 17, 18, 19, 20, 21, 22, 23, 24, 25, 26, 27, 28, 29, 30, 31, 32, 33, 34, 35, 36, 37, 38, 39, 40, 41, 42, 43, 44, 45, 46, 47, 48] (fun i _ _ _ _ _ _ _ _ _ _ _ _ _ _ _ _ _ _ _ _ _ _ _ _ _ _ _ _ _ _ _ _ _ wq => ∃ (j : Nat) (zs : Array Int), a ≤ j ∧ j ≤ k ∧ i = .int .i64 (j : Int) ∧ SoA w0 g off n c zs wq ∧ Sort.insOuter Sort.ltInt a b (k + 1) (Sort.insInner Sort.ltInt a j zs) = D) (fun i _ _ _ _ _ _ _ _ _ _ _ _ _ _ _ _ _ _ _ _ _ _ _ _ _ _ _ _ _ _ _ _ _ _ => (intOf i).toNat)
    case atStart => exact ⟨k, ys, by omega, by omega, rfl, HI.out, (insOuter_go hlt).symm.trans HSO.out⟩
    case round =>
     clear HI HSO
     obtain ⟨j, zs, hj1, hj2, rfl, hI, hH⟩ := hrel
     have HI := Lib.hid hI
     have HH := Lib.hid hH
     clear hI hH
     by_cases hja : a < j
     · obtain ⟨q, rfl⟩ : ∃ q, j = q + 1 := ⟨j - 1, by omega⟩
       have c1 := HI.out.word (i := q + 1) (by omega)
       have c0 := HI.out.word (i := q) (by omega)
       have hgl := HI.out.lt
       have fz := HI.out.1.unfrozen
       obtain ⟨x1, hx1⟩ : ∃ x, zs[q + 1]! = x := ⟨_, rfl⟩
       obtain ⟨x0, hx0⟩ : ∃ x, zs[q]! = x := ⟨_, rfl⟩
       have HX1 := Lib.hid hx1
       have HX0 := Lib.hid hx0
       rw [hx1] at c1
       rw [hx0] at c0
       have q1 : ((q + 1 : Nat) : Int) = (q : Int) + 1 := by omega
       have q2 : (q : Int) + 1 - 1 = (q : Int) := by omega
       have q3 : IntKind.i64.wrap ((q : Int) + 1 - 1) = (q : Int) := by rw [q2]; exact IntWalk.i64_in _ (by omega)
       have q4 : ((q : Int) + 1).toNat = q + 1 := by omega
       have q5 : IntKind.i64.wrap (q : Int) = (q : Int) := IntWalk.i64_in _ (by omega)
       have hd1 : decide ((q : Int) + 1 > (a : Int)) = true := decide_eq_true (by omega)
       have hd2 : decide ((a : Int) < (q : Int) + 1) = true := decide_eq_true (by omega)
       have hqn : q + 1 < n := by omega
       have hqI1 : (q : Int) + 1 < (n : Int) := by omega
       have hqI0 : (q : Int) < (n : Int) := by omega
       have hq0 : (0 : Int) ≤ (q : Int) := by omega
       have hq1 : (0 : Int) ≤ (q : Int) + 1 := by omega
       clear hx1 hx0
       rw [q1]
       by_cases hsw : x1 < x0
       · have hd : decide (x1 < x0) = true := decide_eq_true hsw
         go_wp2
         refine wp_region_quiet_lit (by kernel_rfl) (by kernel_rfl) ?_
         repeat (go_big_quiet_step ((go_at_call 122; exact q_same (lessU _ _ _))))
         refine wpQuiet_nil ?_
         rintro _ ⟨nq, rfl⟩
         go_upto_region 6 with (fail)
         refine ord_reads [] [.p [0, 1, 2, 3, 4, 5, 6, 7, 10, 11], .q [8, 9, 12, 13, 14], .h [15, 16, 17]] (by kernel_rfl) (fun _ _ d _ _ h => by cases d <;> exact h) (by kernel_rfl) ?_
         dsimp only [pick, List.filterMap, List.getElem?_cons_zero, List.getElem?_cons_succ]
         refine wpQuiet_nil ?_
         rintro _ ⟨nq1, rfl⟩
         with_reducible refine part_pure ?_
         dsimp only [pick, List.filterMap, List.getElem?_cons_zero, List.getElem?_cons_succ]
         (repeat (first | (refine pure_ex rfl ?_; apply Exists.intro; apply And.intro; (intro w; go_simp; rfl); simp only [Act.put, List.setIfInBounds_toArray, List.set_cons_succ, List.set_cons_zero]) | (refine pure_skip rfl ?_; simp only [Act.put, List.setIfInBounds_toArray, List.set_cons_succ, List.set_cons_zero]))); refine pure_nil ?_
         with_reducible refine part_reads ?_
         dsimp only [pick, List.filterMap, List.getElem?_cons_zero, List.getElem?_cons_succ]
         (repeat (go_big_quiet_step (fail))); refine wpQuiet_nil ?_
         rintro _ ⟨nq2, rfl⟩
         with_reducible refine part_hard ?_
         dsimp only [pick, List.filterMap, List.getElem?_cons_zero, List.getElem?_cons_succ]
         go_wp2
         with_reducible refine segs_end ?_
         with_reducible refine part_nil ?_
         go_wp2
         have hsw2 := (HI.out.drewN (nq + nq1 + nq2)).swap (i := q + 1) (j := q) (by omega) (by omega)
         rw [HX0.out, HX1.out] at hsw2
         exact ⟨⟨q, Sort.swp zs (q + 1) q, by omega, by omega, rfl, hsw2, (by have e := insInner_go (lt := Sort.ltInt) (a := a) (j := q) (d := zs) (by omega) (by unfold Sort.ltInt; rw [HX0.out, HX1.out]; exact decide_eq_true hsw); have h := HH.out; rw [e] at h; exact h)⟩, by simp [intOf] <;> omega⟩
       · have hd : decide (x1 < x0) = false := decide_eq_false hsw
         go_wp2
         refine wp_region_quiet_lit (by kernel_rfl) (by kernel_rfl) ?_
         repeat (go_big_quiet_step ((go_at_call 122; exact q_same (lessU _ _ _))))
         refine wpQuiet_nil ?_
         rintro _ ⟨nq, rfl⟩
         go_wp2
         exact ⟨⟨k + 1, zs, by omega, by omega, by go_num, HI.out.drewN nq, (by have e := insInner_end (lt := Sort.ltInt) (a := a) (j := q) (d := zs) (by unfold Sort.ltInt; rw [HX0.out, HX1.out]; exact decide_eq_false (by omega)); have h := HH.out; rw [e] at h; exact h)⟩, by simp [intOf] <;> omega⟩
     · obtain rfl : j = a := by omega
       have hd1 : decide ((j : Int) > (j : Int)) = false := by simp
       go_wp2
       refine wp_region_quiet_lit (by kernel_rfl) (by kernel_rfl) ?_
       repeat (go_big_quiet_step (fail))
       refine wpQuiet_nil ?_
       rintro _ ⟨nq, rfl⟩
       go_wp2
       exact ⟨⟨k + 1, zs, by omega, by omega, by go_num, HI.out.drewN nq, (by have h := HH.out; rw [insInner_at] at h; exact h)⟩, by simp [intOf] <;> omega⟩
  · obtain rfl : k = b := by omega
    go_wp2
    go_end0
    exact ⟨rfl, by have h := HSO.out; rw [insOuter_end (by omega)] at h; rw [← h]; exact HI.out⟩
/-- The slice, and the count of swaps in a block of its own. -/
def SwA (w : World) (g off n c : Nat) (d : Array Int) (s sw : Nat) (wr : World) : Prop := SoA w g off n c d wr ∧ CB wr s 3 #[.int .i64 (sw : Int)] ∧ w.heap.size ≤ s ∧ ¬ s = g
theorem SwA.drewN {w wr : World} {g off n c s sw : Nat} {d : Array Int} (h : SwA w g off n c d s sw wr) (q : Nat) : SwA w g off n c d s sw (wr.drewN q) := ⟨h.1.drewN q, h.2.1.drewN q, h.2.2⟩
theorem SwA.inc {w wr : World} {g off n c s sw : Nat} {d : Array Int} (h : SwA w g off n c d s sw wr) (k : Nat) : SwA w g off n c d s k (wr.setCell ⟨s, 0, none⟩ (.int .i64 (k : Int))) := by
 obtain ⟨h1, h2, h3, h4⟩ := h
 refine ⟨⟨h1.1.keep (fun b hb => Below.heap_setCell _ _ _ _ ?_), h1.2.1, h1.2.2.1.setCell (a := ⟨s, 0, none⟩) (.inr h3) _, (bsz_keep (Below.heap_setCell _ _ _ _ (fun he => h4 he.symm))).trans h1.2.2.2⟩, h2.set 0 _, h3, h4⟩
 have : b = g := by simpa [OwnB, eq_comm] using hb
 rw [this]; exact fun he => h4 he.symm
def O2P (w : World) (g off n c : Nat) (d : Array Int) (s : Nat) (r : Nat × Nat × Nat) (e : Ending) (w' : World) : Prop := e = .returned (.tuple #[.int .i64 (r.1 : Int), .int .i64 (r.2.1 : Int)]) ∧ SwA w g off n c d s r.2.2 w'
def MdP (w : World) (g off n c : Nat) (d : Array Int) (s : Nat) (r : Nat × Nat) (e : Ending) (w' : World) : Prop := e = .returned (.int .i64 (r.1 : Int)) ∧ SwA w g off n c d s r.2 w'
section
variable {w0 w : World} {g off n c s sw : Nat} {d : Array Int}
theorem order2_lt (d : Array Int) (i j sw n : Nat) (hi : i < n) (hj : j < n) : (Sort.order2 Sort.ltInt d i j sw).1 < n ∧ (Sort.order2 Sort.ltInt d i j sw).2.1 < n ∧ (Sort.order2 Sort.ltInt d i j sw).2.2 ≤ sw + 1 := by
 unfold Sort.order2; split <;> simp <;> omega
theorem median_lt (d : Array Int) (i j k sw n : Nat) (hi : i < n) (hj : j < n) (hk : k < n) : (Sort.median Sort.ltInt d i j k sw).1 < n ∧ (Sort.median Sort.ltInt d i j k sw).2 ≤ sw + 3 := by
 unfold Sort.median
 have h1 := order2_lt d i j sw n hi hj
 obtain ⟨r1, hr1⟩ : ∃ r, Sort.order2 Sort.ltInt d i j sw = r := ⟨_, rfl⟩
 rw [hr1] at h1
 have h2 := order2_lt d r1.2.1 k r1.2.2 n h1.2.1 hk
 obtain ⟨r2, hr2⟩ : ∃ r, Sort.order2 Sort.ltInt d r1.2.1 k r1.2.2 = r := ⟨_, rfl⟩
 rw [hr2] at h2
 have h3 := order2_lt d r1.1 r2.1 r2.2.2 n h1.1 h2.1
 simp only [hr1, hr2]
 omega
set_option maxRecDepth 100000 in
set_option maxHeartbeats 1000000 in
theorem order2U (i j : Nat) (hi : i < n) (hj : j < n) (hm : n ≤ 1000000) (hsw : sw ≤ 1000) (H : SwA w0 g off n c d s sw w) :
 Calls Tryz.prog 151 #[.slice (some ⟨g, off, none⟩) n c, .int .i64 (i : Int), .int .i64 (j : Int), .pointer (some ⟨s, 0, none⟩)] w (O2P w0 g off n c d s (Sort.order2 Sort.ltInt d i j sw)) := by
 have HH := Lib.hid H
 have c0 := H.1.word (i := i) hi
 have c1 := H.1.word (i := j) hj
 have hl := H.1.lt
 have hls := H.2.1.lt
 have cs : w.cell? ⟨s, 0, none⟩ = some (.int .i64 (sw : Int)) := H.2.1.cell 0
 have fs := H.2.1.frozen 0
 obtain ⟨x, hx⟩ : ∃ x, d[i]! = x := ⟨_, rfl⟩
 obtain ⟨y, hy⟩ : ∃ y, d[j]! = y := ⟨_, rfl⟩
 have HX := Lib.hid hx
 have HY := Lib.hid hy
 rw [hx] at c0
 rw [hy] at c1
 have hiI : (i : Int) < (n : Int) := by omega
 have hjI : (j : Int) < (n : Int) := by omega
 have hsw1 : IntKind.i64.wrap ((sw : Int) + 1) = ((sw + 1 : Nat) : Int) := by rw [IntWalk.i64_in _ (by omega)]; omega
 clear H hx hy
 by_cases hlt : y < x
 · have hd : decide (y < x) = true := decide_eq_true hlt
   have HR : Hid (Sort.order2 Sort.ltInt d i j sw = (j, i, sw + 1)) := by
    show _ = _
    unfold Sort.order2 Sort.ltInt; rw [HX.out, HY.out, if_pos hd]
   go_enter Tryz.func151, Tryz.ntmps151
   go_upto_region 1 with (fail)
   refine wp_region_quiet_lit (by kernel_rfl) (by kernel_rfl) ?_
   repeat (go_big_quiet_step ((go_at_call 122; exact q_same (lessU _ _ _))))
   refine wpQuiet_nil ?_
   rintro _ ⟨nq, rfl⟩
   go_wp2
   refine bodyPost_ret (v := .tuple #[.int .i64 (j : Int), .int .i64 (i : Int)]) (by simp [results, Tryz.results151, go_sem]) rfl ?_
   rw [HR.out]
   exact ⟨rfl, (HH.out.drewN nq).inc (sw + 1)⟩
 · have hd : decide (y < x) = false := decide_eq_false hlt
   have HR : Hid (Sort.order2 Sort.ltInt d i j sw = (i, j, sw)) := by
    show _ = _
    unfold Sort.order2 Sort.ltInt; rw [HX.out, HY.out, if_neg (by rw [hd]; decide)]
   go_enter Tryz.func151, Tryz.ntmps151
   go_upto_region 1 with (fail)
   refine wp_region_quiet_lit (by kernel_rfl) (by kernel_rfl) ?_
   repeat (go_big_quiet_step ((go_at_call 122; exact q_same (lessU _ _ _))))
   refine wpQuiet_nil ?_
   rintro _ ⟨nq, rfl⟩
   go_wp2
   refine bodyPost_ret (v := .tuple #[.int .i64 (i : Int), .int .i64 (j : Int)]) (by simp [results, Tryz.results151, go_sem]) rfl ?_
   rw [HR.out]
   exact ⟨rfl, HH.out.drewN nq⟩
set_option maxRecDepth 100000 in
set_option maxHeartbeats 1000000 in
theorem medU (i j k : Nat) (hi : i < n) (hj : j < n) (hk : k < n) (hm : n ≤ 1000000) (hsw : sw ≤ 100) (H : SwA w0 g off n c d s sw w) :
 Calls Tryz.prog 146 #[.slice (some ⟨g, off, none⟩) n c, .int .i64 (i : Int), .int .i64 (j : Int), .int .i64 (k : Int), .pointer (some ⟨s, 0, none⟩)] w (MdP w0 g off n c d s (Sort.median Sort.ltInt d i j k sw)) := by
 obtain ⟨R, hR⟩ : ∃ R, Sort.median Sort.ltInt d i j k sw = R := ⟨_, rfl⟩
 rw [hR]
 have h1 := order2_lt d i j sw n hi hj
 have hC1 := order2U i j hi hj hm (by omega) H
 unfold Sort.median at hR
 obtain ⟨⟨a1, b1, s1⟩, hr1⟩ : ∃ r, Sort.order2 Sort.ltInt d i j sw = r := ⟨_, rfl⟩
 simp only [hr1] at h1 hC1 hR
 have h2 := order2_lt d b1 k s1 n h1.2.1 hk
 have hC2 := fun W => order2U (w0 := w0) (w := W) (g := g) (off := off) (c := c) (d := d) (s := s) b1 k h1.2.1 hk hm (by omega : s1 ≤ 1000)
 obtain ⟨⟨b2, c2, s2⟩, hr2⟩ : ∃ r, Sort.order2 Sort.ltInt d b1 k s1 = r := ⟨_, rfl⟩
 simp only [hr2] at h2 hC2 hR
 have hC3 := fun W => order2U (w0 := w0) (w := W) (g := g) (off := off) (c := c) (d := d) (s := s) a1 b2 h1.1 h2.1 hm (by omega : s2 ≤ 1000)
 obtain ⟨⟨a3, b3, s3⟩, hr3⟩ : ∃ r, Sort.order2 Sort.ltInt d a1 b2 s2 = r := ⟨_, rfl⟩
 simp only [hr3] at hC3 hR
 have HC1 := Lib.hid hC1
 have HC2 := Lib.hid hC2
 have HC3 := Lib.hid hC3
 subst hR
 clear H hC1 hC2 hC3 hr1 hr2 hr3 h1 h2
 go_enter Tryz.func146, Tryz.ntmps146
 go_upto_region 2 with (go_at_call 151; refine HC1.out.mono ?_; rintro e w1 ⟨rfl, hN⟩; have HN := Lib.hid hN; clear hN)
 go_upto_region 3 with (go_at_call 151; refine (HC2.out _ HN.out).mono ?_; rintro e w2 ⟨rfl, hN2⟩; have HN2 := Lib.hid hN2; clear hN2)
 go_wp2_with (go_at_call 151; refine (HC3.out _ HN2.out).mono ?_; rintro e w3 ⟨rfl, hN3⟩)
 go_ret
 exact ⟨rfl, hN3⟩
set_option maxRecDepth 100000 in
set_option maxHeartbeats 1000000 in
theorem medAdjU (a : Nat) (h1 : 1 ≤ a) (h2 : a + 1 < n) (hm : n ≤ 1000000) (hsw : sw ≤ 100) (H : SwA w0 g off n c d s sw w) :
 Calls Tryz.prog 145 #[.slice (some ⟨g, off, none⟩) n c, .int .i64 (a : Int), .pointer (some ⟨s, 0, none⟩)] w (MdP w0 g off n c d s (Sort.medianAdjacent Sort.ltInt d a sw)) := by
 have HM := Lib.hid (medU (a - 1) a (a + 1) (by omega) (by omega) h2 hm hsw H)
 have e1 : IntKind.i64.wrap ((a : Int) - 1) = ((a - 1 : Nat) : Int) := by rw [IntWalk.i64_in _ (by omega)]; omega
 have e2 : IntKind.i64.wrap ((a : Int) + 1) = ((a + 1 : Nat) : Int) := by rw [IntWalk.i64_in _ (by omega)]; omega
 unfold Sort.medianAdjacent
 obtain ⟨p, hp⟩ : ∃ p, a - 1 = p := ⟨_, rfl⟩
 obtain ⟨q, hq⟩ : ∃ p, a + 1 = p := ⟨_, rfl⟩
 rw [hp] at e1
 rw [hq] at e2
 rw [hp, hq] at HM ⊢
 clear H hp hq
 go_enter Tryz.func145, Tryz.ntmps145
 go_wp2_with (go_at_call 146; refine HM.out.mono ?_; rintro e w' ⟨rfl, hN⟩)
 go_ret
 exact ⟨rfl, hN⟩
end
def hintI : Sort.Hint → Int
 | .unknown => 0
 | .increasing => 1
 | .decreasing => 2
def PvP (w : World) (g off n c : Nat) (d : Array Int) (r : Nat × Sort.Hint) (e : Ending) (w' : World) : Prop := e = .returned (.tuple #[.int .i64 (r.1 : Int), .int .i64 (hintI r.2)]) ∧ SoA w g off n c d w'
section
variable {w0 w : World} {g off n c s sw : Nat} {d : Array Int}
theorem SwA.new (h : SoA w0 g off n c d w) : SwA w0 g off n c d w.heap.size 0 (w.alloc (.cells #[.int .i64 0] 3)) :=
 ⟨h.bl (bl_alloc (Below.refl _ _) _), CB.new w 3 #[.int .i64 0], h.2.2.1.size, by have := h.lt; omega⟩
set_option maxRecDepth 100000 in
set_option maxHeartbeats 2000000 in
theorem pivotU (a b : Nat) (h8 : a + 8 ≤ b) (hb : b ≤ n) (hm : n ≤ 1000000) (H : SoA w0 g off n c d w) :
 Calls Tryz.prog 119 #[.slice (some ⟨g, off, none⟩) n c, .int .i64 (a : Int), .int .i64 (b : Int)] w (PvP w0 g off n c d (Sort.choosePivot Sort.ltInt d a b)) := by
 obtain ⟨l, hl⟩ : ∃ l, b - a = l := ⟨_, rfl⟩
 obtain ⟨q, hq⟩ : ∃ q, l / 4 = q := ⟨_, rfl⟩
 obtain ⟨i, hi⟩ : ∃ i, a + q * 1 = i := ⟨_, rfl⟩
 obtain ⟨j, hj⟩ : ∃ i, a + q * 2 = i := ⟨_, rfl⟩
 obtain ⟨k, hk⟩ : ∃ i, a + q * 3 = i := ⟨_, rfl⟩
 obtain ⟨R, hR⟩ : ∃ R, Sort.choosePivot Sort.ltInt d a b = R := ⟨_, rfl⟩
 rw [hR]
 unfold Sort.choosePivot at hR
 simp only [hl, hq, hi, hj, hk] at hR
 rw [if_pos (show l ≥ 8 by omega)] at hR
 have H0 := Lib.hid (SwA.new H)
 have hls : w.heap.size < (w.alloc (.cells #[.int .i64 0] 3)).heap.size := by simp
 have m2 : ∃ z, q * 2 = z := ⟨_, rfl⟩
 obtain ⟨z2, hz2⟩ := m2
 have m3 : ∃ z, q * 3 = z := ⟨_, rfl⟩
 obtain ⟨z3, hz3⟩ := m3
 have e1 : IntKind.i64.wrap ((b : Int) - (a : Int)) = (l : Int) := by rw [IntWalk.i64_in _ (by omega)]; omega
 have e2 : (l : Int).tdiv 4 = (q : Int) := by rw [Int.tdiv_eq_ediv_of_nonneg (by omega)]; omega
 have e3 : IntKind.i64.wrap (q : Int) = (q : Int) := by rw [IntWalk.i64_in _ (by omega)]
 have e4 : IntKind.i64.wrap ((q : Int) * 2) = (z2 : Int) := by rw [IntWalk.i64_in _ (by omega)]; omega
 have e5 : IntKind.i64.wrap ((q : Int) * 3) = (z3 : Int) := by rw [IntWalk.i64_in _ (by omega)]; omega
 have e6 : IntKind.i64.wrap ((a : Int) + (q : Int)) = (i : Int) := by rw [IntWalk.i64_in _ (by omega)]; omega
 have e7 : IntKind.i64.wrap ((a : Int) + (z2 : Int)) = (j : Int) := by rw [IntWalk.i64_in _ (by omega)]; omega
 have e8 : IntKind.i64.wrap ((a : Int) + (z3 : Int)) = (k : Int) := by rw [IntWalk.i64_in _ (by omega)]; omega
 have l8 : (8 : Int) ≤ (l : Int) := by omega
 clear H
 obtain ⟨s, hs⟩ : ∃ s, w.heap.size = s := ⟨_, rfl⟩
 obtain ⟨W0, hW0⟩ : ∃ W0, w.alloc (.cells #[.int .i64 0] 3) = W0 := ⟨_, rfl⟩
 rw [hs, hW0] at H0
 rw [hW0, hs] at hls
 by_cases h50 : 50 ≤ l
 · have l50 : (50 : Int) ≤ (l : Int) := by omega
   rw [if_pos h50] at hR
   have hA1 := fun W => medAdjU (w0 := w0) (w := W) (g := g) (off := off) (n := n) (c := c) (d := d) (s := s) (sw := 0) i (by omega) (by omega) hm (by omega)
   have hx1 := median_lt d (i - 1) i (i + 1) 0 n (by omega) (by omega) (by omega)
   obtain ⟨⟨i1, s1⟩, hr1⟩ : ∃ r, Sort.medianAdjacent Sort.ltInt d i 0 = r := ⟨_, rfl⟩
   rw [← Sort.medianAdjacent] at hx1
   simp only [hr1] at hA1 hR hx1
   have hA2 := fun W => medAdjU (w0 := w0) (w := W) (g := g) (off := off) (n := n) (c := c) (d := d) (s := s) (sw := s1) j (by omega) (by omega) hm (by omega)
   have hx2 := median_lt d (j - 1) j (j + 1) s1 n (by omega) (by omega) (by omega)
   obtain ⟨⟨i2, s2⟩, hr2⟩ : ∃ r, Sort.medianAdjacent Sort.ltInt d j s1 = r := ⟨_, rfl⟩
   rw [← Sort.medianAdjacent] at hx2
   simp only [hr2] at hA2 hR hx2
   have hA3 := fun W => medAdjU (w0 := w0) (w := W) (g := g) (off := off) (n := n) (c := c) (d := d) (s := s) (sw := s2) k (by omega) (by omega) hm (by omega)
   have hx3 := median_lt d (k - 1) k (k + 1) s2 n (by omega) (by omega) (by omega)
   obtain ⟨⟨i3, s3⟩, hr3⟩ : ∃ r, Sort.medianAdjacent Sort.ltInt d k s2 = r := ⟨_, rfl⟩
   rw [← Sort.medianAdjacent] at hx3
   simp only [hr3] at hA3 hR hx3
   have hA4 := fun W => medU (w0 := w0) (w := W) (g := g) (off := off) (n := n) (c := c) (d := d) (s := s) (sw := s3) i1 i2 i3 hx1.1 hx2.1 hx3.1 hm (by omega)
   have hx4 := median_lt d i1 i2 i3 s3 n hx1.1 hx2.1 hx3.1
   obtain ⟨⟨i4, s4⟩, hr4⟩ : ∃ r, Sort.median Sort.ltInt d i1 i2 i3 s3 = r := ⟨_, rfl⟩
   simp only [hr4] at hA4 hR hx4
   have HA1 := Lib.hid hA1
   have HA2 := Lib.hid hA2
   have HA3 := Lib.hid hA3
   have HA4 := Lib.hid hA4
   have HR := Lib.hid hR
   clear hA1 hA2 hA3 hA4 hr1 hr2 hr3 hr4 hR hx1 hx2 hx3
   go_enter Tryz.func119, Tryz.ntmps119
   go_upto_region 3 with (fail)
   go_upto_region 9 with (go_at_call 145; refine (HA1.out _ H0.out).mono ?_; rintro e w1 ⟨rfl, hN⟩; have HN := Lib.hid hN; clear hN)
   go_upto_region 10 with (go_at_call 145; refine (HA2.out _ HN.out).mono ?_; rintro e w1 ⟨rfl, hN⟩; have HN2 := Lib.hid hN; clear hN)
   go_upto_region 11 with (go_at_call 145; refine (HA3.out _ HN2.out).mono ?_; rintro e w1 ⟨rfl, hN⟩; have HN3 := Lib.hid hN; clear hN)
   go_upto_region 12 with (go_at_call 146; refine (HA4.out _ HN3.out).mono ?_; rintro e w1 ⟨rfl, hN⟩; have HN4 := Lib.hid hN; have cs : w1.cell? ⟨s, 0, none⟩ = some (.int .i64 (s4 : Int)) := hN.2.1.cell 0; have hl1 := hN.2.1.lt; clear hN)
   by_cases h0 : s4 = 0
   · have h0i : (s4 : Int) = 0 := by omega
     go_wp2
     refine bodyPost_ret (v := .tuple #[.int .i64 (i4 : Int), .int .i64 1]) (by simp [results, Tryz.results119, go_sem]) rfl ?_
     exact ⟨by rw [← HR.out, if_pos h0]; rfl, HN4.out.1⟩
   · by_cases h1 : s4 = 12
     · have h0i : ¬ (s4 : Int) = 0 := by omega
       have h1i : (s4 : Int) = 12 := by omega
       go_wp2
       refine bodyPost_ret (v := .tuple #[.int .i64 (i4 : Int), .int .i64 2]) (by simp [results, Tryz.results119, go_sem]) rfl ?_
       exact ⟨by rw [← HR.out, if_neg h0, if_pos h1]; rfl, HN4.out.1⟩
     · have h0i : ¬ (s4 : Int) = 0 := by omega
       have h1i : ¬ (s4 : Int) = 12 := by omega
       go_wp2
       refine bodyPost_ret (v := .tuple #[.int .i64 (i4 : Int), .int .i64 0]) (by simp [results, Tryz.results119, go_sem]) rfl ?_
       exact ⟨by rw [← HR.out, if_neg h0, if_neg h1]; rfl, HN4.out.1⟩
 · have l50 : ¬ (50 : Int) ≤ (l : Int) := by omega
   rw [if_neg h50] at hR
   have hA4 := fun W => medU (w0 := w0) (w := W) (g := g) (off := off) (n := n) (c := c) (d := d) (s := s) (sw := 0) i j k (by omega) (by omega) (by omega) hm (by omega)
   have hx4 := median_lt d i j k 0 n (by omega) (by omega) (by omega)
   obtain ⟨⟨i4, s4⟩, hr4⟩ : ∃ r, Sort.median Sort.ltInt d i j k 0 = r := ⟨_, rfl⟩
   simp only [hr4] at hA4 hR hx4
   have HA4 := Lib.hid hA4
   have HR := Lib.hid hR
   clear hA4 hr4 hR
   go_enter Tryz.func119, Tryz.ntmps119
   go_upto_region 3 with (fail)
   go_upto_region 12 with (go_at_call 146; refine (HA4.out _ H0.out).mono ?_; rintro e w1 ⟨rfl, hN⟩; have HN4 := Lib.hid hN; have cs : w1.cell? ⟨s, 0, none⟩ = some (.int .i64 (s4 : Int)) := hN.2.1.cell 0; have hl1 := hN.2.1.lt; clear hN)
   by_cases h0 : s4 = 0
   · have h0i : (s4 : Int) = 0 := by omega
     go_wp2
     refine bodyPost_ret (v := .tuple #[.int .i64 (i4 : Int), .int .i64 1]) (by simp [results, Tryz.results119, go_sem]) rfl ?_
     exact ⟨by rw [← HR.out, if_pos h0]; rfl, HN4.out.1⟩
   · by_cases h1 : s4 = 12
     · have h0i : ¬ (s4 : Int) = 0 := by omega
       have h1i : (s4 : Int) = 12 := by omega
       go_wp2
       refine bodyPost_ret (v := .tuple #[.int .i64 (i4 : Int), .int .i64 2]) (by simp [results, Tryz.results119, go_sem]) rfl ?_
       exact ⟨by rw [← HR.out, if_neg h0, if_pos h1]; rfl, HN4.out.1⟩
     · have h0i : ¬ (s4 : Int) = 0 := by omega
       have h1i : ¬ (s4 : Int) = 12 := by omega
       go_wp2
       refine bodyPost_ret (v := .tuple #[.int .i64 (i4 : Int), .int .i64 0]) (by simp [results, Tryz.results119, go_sem]) rfl ?_
       exact ⟨by rw [← HR.out, if_neg h0, if_neg h1]; rfl, HN4.out.1⟩
end
/-- What the test for order leaves. -/
def PiP (w : World) (g off n c : Nat) (r : Array Int × Bool) (e : Ending) (w' : World) : Prop := e = .returned (.bool r.2) ∧ SoA w g off n c r.1 w'
theorem partIns_short {lt : Int → Int → Bool} {d : Array Int} {a b : Nat} (h : b - a < 50 ∨ Sort.scanSorted lt d b (a + 1) = b) : Sort.partialInsertionSort lt d a b = (d, decide (Sort.scanSorted lt d b (a + 1) = b)) := by
 unfold Sort.partialInsertionSort
 rw [Sort.partialIns]
 by_cases he : Sort.scanSorted lt d b (a + 1) = b
 · simp [he]
 · have := h.resolve_right he
   simp [he, this]
theorem scan_go {lt : Int → Int → Bool} {d : Array Int} {b k p : Nat} (hk : k < b) (hp : k - 1 = p) (h : lt d[k]! d[p]! = false) : Sort.scanSorted lt d b k = Sort.scanSorted lt d b (k + 1) := by
 rw [Sort.scanSorted, if_pos (by rw [hp, h]; simpa using hk)]
theorem scan_end {lt : Int → Int → Bool} {d : Array Int} {b k p : Nat} (hp : k - 1 = p) (h : ¬ k < b ∨ lt d[k]! d[p]! = true) : Sort.scanSorted lt d b k = k := by
 rw [Sort.scanSorted, if_neg]
 rcases h with h | h
 · simp [h]
 · rw [hp, h]; simp
set_option maxRecDepth 100000 in
set_option maxHeartbeats 4000000 in
theorem partInsU (w0 w : World) (g off n c a b : Nat) (d0 : Array Int) (hab : a < b) (hbn : b ≤ n) (hm : n ≤ 1000000) (h50 : b - a < 50 ∨ Sort.scanSorted Sort.ltInt d0 b (a + 1) = b) (hS : SoA w0 g off n c d0 w) :
 Calls Tryz.prog 121 #[.slice (some ⟨g, off, none⟩) n c, .int .i64 (a : Int), .int .i64 (b : Int)] w (PiP w0 g off n c (Sort.partialInsertionSort Sort.ltInt d0 a b)) := by
 rw [partIns_short h50]
 have HI0 := Lib.hid hS
 obtain ⟨D, hD⟩ : ∃ D, Sort.scanSorted Sort.ltInt d0 b (a + 1) = D := ⟨_, rfl⟩
 rw [hD] at h50 ⊢
 have HD := Lib.hid hD
 have e0 : IntKind.i64.wrap ((a : Int) + 1) = ((a + 1 : Nat) : Int) := by rw [IntWalk.i64_in _ (by omega)]; omega
 have e9 : IntKind.i64.wrap ((b : Int) - (a : Int)) = (b : Int) - (a : Int) := by rw [IntWalk.i64_in _ (by omega)]
 clear hS hD
 go_enter Tryz.func121, Tryz.ntmps121
 go_wp2
 refine wp_loop_rounds 1 ?_
 rw [rounds_succ]
 go_wp2
 go_loopw [7, 17, 18, 19, 20, 21, 22, 23, 24, 25, 26, 27, 28, 29, 30, 31, 32, 33, 34] (fun i _ _ _ _ _ _ _ _ _ _ _ _ _ _ _ _ _ _ wr => ∃ (k : Nat), a < k ∧ k ≤ b ∧ i = .int .i64 (k : Int) ∧ SoA w0 g off n c d0 wr ∧ Sort.scanSorted Sort.ltInt d0 b k = D) (fun i _ _ _ _ _ _ _ _ _ _ _ _ _ _ _ _ _ _ _ => b - (intOf i).toNat)
 case atStart => exact ⟨a + 1, by omega, by omega, by go_num, HI0.out, HD.out⟩
 case round =>
  clear HI0 HD
  obtain ⟨k, hak, hk, rfl, hI, hSo⟩ := hrel
  have HI := Lib.hid hI
  have HSO := Lib.hid hSo
  have hgl := hI.lt
  clear hI hSo
  obtain ⟨p, hp⟩ : ∃ p, k - 1 = p := ⟨_, rfl⟩
  obtain ⟨k1, hk1⟩ : ∃ x, k + 1 = x := ⟨_, rfl⟩
  have e1 : IntKind.i64.wrap ((k : Int) - 1) = (p : Int) := by rw [IntWalk.i64_in _ (by omega)]; omega
  have e2 : IntKind.i64.wrap ((k : Int) + 1) = (k1 : Int) := by rw [IntWalk.i64_in _ (by omega)]; omega
  have HK := Lib.hid hk1
  have HP := Lib.hid hp
  by_cases hlt : k < b
  · have hd2 : decide ((k : Int) < (b : Int)) = true := decide_eq_true (by omega)
    have u0 := HI.out.word (i := k) (by omega)
    have u1 := HI.out.word (i := p) (by omega)
    obtain ⟨y0, hy0⟩ : ∃ x, d0[k]! = x := ⟨_, rfl⟩
    obtain ⟨y1, hy1⟩ : ∃ x, d0[p]! = x := ⟨_, rfl⟩
    rw [hy0] at u0
    rw [hy1] at u1
    have i0 : (k : Int) < (n : Int) := by omega
    have i1 : (p : Int) < (n : Int) := by omega
    have z0 : (0 : Int) ≤ (k : Int) := by omega
    have z1 : (0 : Int) ≤ (p : Int) := by omega
    have HY0 := Lib.hid hy0
    have HY1 := Lib.hid hy1
    clear hy0 hy1 hp hk1
    by_cases hsw : y0 < y1
    · have hds : decide (y0 < y1) = true := decide_eq_true hsw
      have HE := Lib.hid (scan_end (lt := Sort.ltInt) (d := d0) (b := b) HP.out (.inr (by rw [HY0.out, HY1.out]; exact decide_eq_true hsw)))
      go_upto_region 5 with (fail)
      refine wp_region_quiet_lit (by kernel_rfl) (by kernel_rfl) ?_
      repeat (go_big_quiet_step ((go_at_call 122; exact q_same (lessU _ _ _))))
      refine wpQuiet_nil ?_
      rintro _ ⟨nr, rfl⟩
      have hDk : D = k := HSO.out.symm.trans HE.out
      have hne : ¬ (k : Int) = (b : Int) := by omega
      have h50' : ((b : Int) - (a : Int)) < 50 := by
       rcases h50 with h | h
       · omega
       · omega
      go_wp2
      refine bodyPost_ret (v := .bool false) (by simp [results, Tryz.results121, go_sem]) rfl ?_
      exact ⟨by rw [decide_eq_false (by omega)], HI.out.drewN nr⟩
    · have hds : decide (y0 < y1) = false := decide_eq_false hsw
      have HE := Lib.hid (scan_go (lt := Sort.ltInt) (d := d0) hlt HP.out (by rw [HY0.out, HY1.out]; exact decide_eq_false hsw))
      go_upto_region 5 with (fail)
      refine wp_region_quiet_lit (by kernel_rfl) (by kernel_rfl) ?_
      repeat (go_big_quiet_step ((go_at_call 122; exact q_same (lessU _ _ _))))
      refine wpQuiet_nil ?_
      rintro _ ⟨nr, rfl⟩
      go_wp2
      exact ⟨⟨k1, by have := HK.out; omega, by have := HK.out; omega, rfl, HI.out.drewN nr, by rw [← HK.out, ← HE.out]; exact HSO.out⟩, by have := HK.out; simp [intOf] <;> omega⟩
  · obtain rfl : k = b := by omega
    have hd2 : decide ((k : Int) < (k : Int)) = false := decide_eq_false (by omega)
    have HE := Lib.hid (scan_end (lt := Sort.ltInt) (d := d0) (b := k) HP.out (.inl (by omega)))
    have hDk : D = k := HSO.out.symm.trans HE.out
    clear hp hk1
    go_upto_region 5 with (fail)
    refine wp_region_quiet_lit (by kernel_rfl) (by kernel_rfl) ?_
    repeat (go_big_quiet_step (fail))
    refine wpQuiet_nil ?_
    rintro _ ⟨nr, rfl⟩
    go_wp2
    refine bodyPost_ret (v := .bool true) (by simp [results, Tryz.results121, go_sem]) rfl ?_
    exact ⟨by rw [decide_eq_true hDk], HI.out.drewN nr⟩
theorem lenTab {T : ByteArray} (n : Nat) (hn : n < T.size) (hT : T.data.toList.map UInt8.toNat = (List.range 256).map Sort.bitsLen) : (T[n].toNat : Nat) = Sort.bitsLen n := by
 have h1 : (T.data.toList.map UInt8.toNat)[n]? = some (T[n].toNat) := by
  have : n < T.data.size := hn
  simp only [List.getElem?_map, Array.getElem?_toList, Array.getElem?_eq_getElem this, Option.map_some]; rfl
 have h2 : n < 256 := by
  have := congrArg List.length hT
  simp at this
  have h3 : T.size = T.data.size := rfl
  omega
 rw [hT] at h1
 simpa [h2] using h1.symm
theorem bitsLen_small {n k : Nat} (h : n < 2 ^ k) : Sort.bitsLen n ≤ k := (Sort.bitsLen_le_iff n k).2 h
set_option maxRecDepth 100000 in
set_option maxHeartbeats 1000000 in
theorem len64_x (w : World) (n : Nat) (hm : n < 256) : Calls Tryz.prog 126 #[.int .u64 (n : Int)] w fun e w' => e = .returned (.int .i64 (Sort.bitsLen n : Nat)) ∧ w = w' := by
 have e1 : ¬ (4294967296 : Int) ≤ (n : Int) := by omega
 have e2 : ¬ (65536 : Int) ≤ (n : Int) := by omega
 have e3 : ¬ (256 : Int) ≤ (n : Int) := by omega
 have e4 : IntKind.u8.wrap (n : Int) = (n : Int) := by rw [IntKind.wrap_u8]; omega
 have h8 : Sort.bitsLen n ≤ 8 := bitsLen_small hm
 go_enter Tryz.func126, Tryz.ntmps126
 go_wp2
 go_ret
 refine ⟨congrArg (fun z => Ending.returned (.int .i64 z)) ((congrArg (fun z : Nat => wrap64 (wrap64 (z : Int))) (lenTab n _ (by kernel_rfl))).trans ?_), rfl⟩
 have e5 : wrap64 (Sort.bitsLen n : Int) = (Sort.bitsLen n : Int) := by unfold wrap64; omega
 show wrap64 (wrap64 (Sort.bitsLen n : Int)) = _
 rw [e5, e5]
set_option maxRecDepth 100000 in
set_option maxHeartbeats 1000000 in
theorem len_x (w : World) (n : Nat) (hm : n < 256) : Calls Tryz.prog 102 #[.int .u64 (n : Int)] w fun e w' => e = .returned (.int .i64 (Sort.bitsLen n : Nat)) ∧ w = w' := by
 have HI := Lib.hid (fun w => len64_x w n hm)
 have e1 : IntKind.u64.wrap (n : Int) = (n : Int) := IntWalk.u64_in _ (by omega)
 go_enter Tryz.func102, Tryz.ntmps102
 go_wp2_with (go_at_call 126; refine (HI.out _).mono ?_; rintro e w' ⟨rfl, rfl⟩)
 go_ret
 exact ⟨rfl, rfl⟩
section
variable {d : Array Int} {a b n limit : Nat} {wb wp : Bool}
theorem pdq_small (h : b - a ≤ 12) : Sort.pdq Sort.ltInt d a b limit wb wp = Sort.insertionSort Sort.ltInt d a b := by
 rw [Sort.pdq, if_pos h]
theorem swoInt : Sort.SWO Sort.ltInt := ⟨fun x => by simp [Sort.ltInt], fun x y z => by simp only [Sort.ltInt, decide_eq_true_eq]; omega, fun x y z => by simp only [Sort.ltInt, decide_eq_false_iff_not]; omega⟩
theorem order2_sorted (hs : Sort.SortedIn Sort.ltInt a b d) {i j s : Nat} (h1 : a ≤ i) (h2 : i < j) (h3 : j < b) : Sort.order2 Sort.ltInt d i j s = (i, j, s) := by
 unfold Sort.order2; rw [if_neg (by rw [hs i j h1 h2 h3]; decide)]
theorem median_sorted (hs : Sort.SortedIn Sort.ltInt a b d) {i j k s : Nat} (h1 : a ≤ i) (h2 : i < j) (h3 : j < k) (h4 : k < b) : Sort.median Sort.ltInt d i j k s = (j, s) := by
 unfold Sort.median
 simp only [order2_sorted hs h1 h2 (by omega), order2_sorted hs (by omega) h3 h4]
theorem pivot_sorted (hs : Sort.SortedIn Sort.ltInt a b d) (h8 : a + 8 ≤ b) : (Sort.choosePivot Sort.ltInt d a b).2 = .increasing := by
 unfold Sort.choosePivot
 obtain ⟨l, hl⟩ : ∃ l, b - a = l := ⟨_, rfl⟩
 obtain ⟨q, hq⟩ : ∃ q, l / 4 = q := ⟨_, rfl⟩
 simp only [hl, hq]
 rw [if_pos (show l ≥ 8 by omega)]
 by_cases h50 : l ≥ 50
 · have m1 := median_sorted hs (i := a + q * 1 - 1) (j := a + q * 1) (k := a + q * 1 + 1) (s := 0) (by omega) (by omega) (by omega) (by omega)
   have m2 := median_sorted hs (i := a + q * 2 - 1) (j := a + q * 2) (k := a + q * 2 + 1) (s := 0) (by omega) (by omega) (by omega) (by omega)
   have m3 := median_sorted hs (i := a + q * 3 - 1) (j := a + q * 3) (k := a + q * 3 + 1) (s := 0) (by omega) (by omega) (by omega) (by omega)
   have m4 := median_sorted hs (i := a + q * 1) (j := a + q * 2) (k := a + q * 3) (s := 0) (by omega) (by omega) (by omega) (by omega)
   simp only [if_pos h50, Sort.medianAdjacent, m1, m2, m3, m4]
   simp
 · have m4 := median_sorted hs (i := a + q * 1) (j := a + q * 2) (k := a + q * 3) (s := 0) (by omega) (by omega) (by omega) (by omega)
   simp only [if_neg h50, m4]
   simp
theorem scan_sorted (hs : Sort.SortedIn Sort.ltInt a b d) : ∀ (m k : Nat), b - k = m → a < k → k ≤ b → Sort.scanSorted Sort.ltInt d b k = b := by
 intro m
 induction m with
 | zero => intro k h1 h2 h3; rw [scan_end rfl (.inl (by omega))]; omega
 | succ m ih =>
  intro k h1 h2 h3
  rw [scan_go (by omega) rfl (hs (k - 1) k (by omega) (by omega) (by omega))]
  exact ih (k + 1) (by omega) (by omega) (by omega)
theorem sorted_of (xs : List Int) (h : xs.Pairwise (· ≤ ·)) : Sort.SortedIn Sort.ltInt 0 xs.length xs.toArray := by
 intro i j _ hij hj
 rw [List.pairwise_iff_getElem] at h
 have := h i j (by omega) hj hij
 simp [Sort.ltInt, hj, show i < xs.length by omega]
 omega
end

set_option maxRecDepth 100000 in
set_option maxHeartbeats 4000000 in
theorem pdqU_s (w0 w : World) (g off n c : Nat) (hm : n ≤ 1000000) (d0 : Array Int) (lim : Nat) (h1 : 1 ≤ n) (hlim : 1 ≤ lim ∧ lim ≤ 1000) (hs : n ≤ 12 ∨ Sort.SortedIn Sort.ltInt 0 n d0) (hS : SoA w0 g off n c d0 w) :
 Calls Tryz.prog 101 #[.slice (some ⟨g, off, none⟩) n c, .int .i64 0, .int .i64 (n : Int), .int .i64 (lim : Int)] w (SoP w0 g off n c (if n ≤ 12 then Sort.insertionSort Sort.ltInt d0 0 n else d0)) := by
 have e1 : IntKind.i64.wrap (n : Int) = (n : Int) := by rw [IntWalk.i64_in _ (by omega)]
 have hl0 : ¬ (lim : Int) = 0 := by omega
 by_cases h12 : n ≤ 12
 · have h12' : (n : Int) ≤ 12 := by omega
   have hC := insU_x w0 w g off n c 0 n d0 (by omega) (Nat.le_refl _) hm hS
   rw [if_pos h12]
   have HC := Lib.hid hC
   clear hS hC hs
   go_enter Tryz.func101, Tryz.ntmps101
   go_wp2
   refine wp_loop_rounds 1 ?_
   rw [rounds_succ]
   go_wp2_with (go_at_call 116; refine HC.out.mono ?_; rintro e w' ⟨rfl, hN⟩)
   exact bodyPost_ret (v := .tuple #[]) (by simp [results, Tryz.results101, go_sem]) rfl ⟨rfl, hN⟩
 · have h12' : ¬ (n : Int) ≤ 12 := by omega
   rw [if_neg h12]
   have hs := hs.resolve_left h12
   have hsc := scan_sorted hs _ 1 rfl (by omega) (by omega)
   have HC := Lib.hid (pivotU (w0 := w0) (w := w) (g := g) (off := off) (n := n) (c := c) (d := d0) 0 n (by omega) (Nat.le_refl _) hm hS)
   have hin := pivot_sorted hs (by omega)
   obtain ⟨⟨pv, hi⟩, hr⟩ : ∃ z, Sort.choosePivot Sort.ltInt d0 0 n = z := ⟨_, rfl⟩
   rw [hr] at HC hin
   obtain rfl : hi = .increasing := hin
   have hq : hintI Sort.Hint.increasing = 1 := rfl
   have HP := Lib.hid (fun W (h : SoA w0 g off n c d0 W) => partInsU w0 W g off n c 0 n d0 (by omega) (Nat.le_refl _) hm (.inr hsc) h)
   rw [partIns_short (.inr hsc), decide_eq_true hsc] at HP
   clear hS hr hsc
   go_enter Tryz.func101, Tryz.ntmps101
   go_wp2
   refine wp_loop_rounds 1 ?_
   rw [rounds_succ]
   go_wp2_with (first | (go_at_call 119; refine HC.out.mono ?_; rintro e w' ⟨rfl, hN⟩; have HN := Lib.hid hN; clear hN) | (go_at_call 121; refine (HP.out _ HN.out).mono ?_; rintro e w2 ⟨rfl, hN⟩; have HN2 := Lib.hid hN; clear hN))
   exact bodyPost_ret (v := .tuple #[]) (by simp [results, Tryz.results101, go_sem]) rfl ⟨rfl, HN2.out⟩

set_option maxRecDepth 100000 in
set_option maxHeartbeats 1000000 in
theorem sortQ_x (w0 w : World) (g off n c : Nat) (d0 : Array Int) (h1 : 1 ≤ n) (hm : n < 256) (hv : n ≤ 12 ∨ Sort.SortedIn Sort.ltInt 0 n d0) (hS : SoA w0 g off n c d0 w) :
 Calls Tryz.prog 73 #[.slice (some ⟨g, off, none⟩) n c] w (SoP w0 g off n c (Sort.sort Sort.ltInt d0)) := by
 have hsz := hS.2.1
 have HL := Lib.hid (fun w => len_x w n hm)
 have h8 : Sort.bitsLen n ≤ 8 := bitsLen_small hm
 have h0 : 1 ≤ Sort.bitsLen n := by
  rcases Nat.eq_zero_or_pos (Sort.bitsLen n) with h | h
  · have := Sort.lt_two_pow_bitsLen n; rw [h] at this; omega
  · exact h
 have HC : Hid (Calls Tryz.prog 101 #[.slice (some ⟨g, off, none⟩) n c, .int .i64 0, .int .i64 (n : Int), .int .i64 (Sort.bitsLen n : Nat)] w (SoP w0 g off n c (Sort.sort Sort.ltInt d0))) := by
  show Calls _ _ _ _ _
  have hP := pdqU_s w0 w g off n c (by omega) d0 (Sort.bitsLen n) h1 ⟨h0, by omega⟩ hv hS
  by_cases h12 : n ≤ 12
  · rw [if_pos h12] at hP
    unfold Sort.sort
    rw [hsz, pdq_small (by omega)]; exact hP
  · have hv := hv.resolve_left h12
    rw [if_neg h12] at hP
    have hpd := Sort.sort_sorts Sort.ltInt swoInt d0
    have hself : Sort.sort Sort.ltInt d0 = d0 := by
     have hx := Sort.sortInt d0.toList
     have hp : d0.toList.Pairwise (· ≤ ·) := by
      rw [List.pairwise_iff_getElem]
      intro i j hi hj hij
      have hi' : i < d0.size := by simpa using hi
      have hj' : j < d0.size := by simpa using hj
      have := hv i j (Nat.zero_le _) hij (by omega)
      rw [getElem!_pos d0 i hi', getElem!_pos d0 j hj'] at this
      simp [Sort.ltInt] at this
      simpa using this
     rw [List.mergeSort_of_pairwise (by simpa using hp), Array.toArray_toList] at hx
     exact Array.toList_inj.1 hx
    rw [hself]
    exact hP
 obtain ⟨k, hk⟩ : ∃ k, Sort.bitsLen n = k := ⟨_, rfl⟩
 rw [hk] at HL HC
 have hw : IntKind.u64.wrap (n : Int) = (n : Int) := IntWalk.u64_in _ (by omega)
 clear hS hk hv
 go_enter Tryz.func73, Tryz.ntmps73
 go_wp2_with (first | (go_at_call 102; refine (HL.out _).mono ?_; rintro e w' ⟨rfl, rfl⟩) | (go_at_call 101; refine HC.out.mono ?_; rintro e w' ⟨rfl, hN⟩; have HN := Lib.hid hN; clear hN))
 go_end0
 exact ⟨rfl, HN.out⟩

def SrQ (w : World) (g off n c : Nat) (xs : List Int) (e : Ending) (w' : World) : Prop := e = .returned (.tuple #[]) ∧ Sl 34 1 w' (some ⟨g, off, none⟩) n c (uints (srtL xs)) ∧ Ch (At g) w w' ∧ bsz w' g = bsz w g
theorem sortQ_any (w : World) (g off n c : Nat) (xs : List Int) (hn : xs.length = n) (h1 : 1 ≤ n) (hm : n < 256) (hv : n ≤ 12 ∨ xs.Pairwise (· ≤ ·)) (hS : Sl 34 1 w (some ⟨g, off, none⟩) n c (uints xs)) :
 Calls Tryz.prog 73 #[.slice (some ⟨g, off, none⟩) n c] w (SrQ w g off n c xs) := by
 refine (sortQ_x w w g off n c xs.toArray h1 hm (hv.imp_right (fun h => by rw [← hn]; exact sorted_of xs h)) ⟨by simpa using hS, by simpa using hn, Ch.refl _ _, rfl⟩).mono ?_
 rintro e w' ⟨rfl, h1, h2, h3, h4⟩
 refine ⟨rfl, ?_, h3, h4⟩
 have := Sort.sortInt xs
 rw [this] at h1
 exact h1
theorem ib_of_sl {w : World} {g n : Nat} {xs : List Int} (h : Sl 34 1 w (some ⟨g, 0, none⟩) n n (uints xs)) (hz : bsz w g = n) : IB .u64 34 w g xs := by
 have hl := h.1
 rcases h.2 with ⟨hx, _⟩ | ⟨g', o', cur, hA, hC, _, _, hfit, ht⟩
 · cases hx
 · cases hA
   rw [bsz_cb hC] at hz
   have e : cur = ia .u64 xs := by
    apply Array.toList_inj.1
    rw [← List.take_of_length_le (l := cur.toList) (i := n * 1) (by simp; omega)]
    simpa [ia, uints] using ht
   show w.heap[g]? = _
   rw [← e]; exact hC

set_option maxRecDepth 100000 in
set_option maxHeartbeats 4000000 in
theorem memStoresQ (w : World) (A : Option Addr) (n c : Nat) (ws : List (Int × Int)) (hn : ws.length = n) (h1 : 1 ≤ n) (hm : n < 256) (hS : Sl 122 2 w A n c (wcells ws)) (hr : ∀ p ∈ ws, 0 ≤ p.1 ∧ p.1 < 18446744073709551616) (hs : n ≤ 12 ∨ (starts ws).Pairwise (· ≤ ·)) :
 Calls Tryz.prog 54 #[.slice A n c] w (StoPost w (storesX ws)) := by
 have HN := Lib.hid hn
 have HS := Lib.hid hS
 have HR := Lib.hid hr
 have HSo := Lib.hid hs
 have e0 : ((n : Int) == 0) = false := by simp; omega
 have hmk : ∀ W : World, (Instr.makeSlice 40 (.int .i64 0) (.int .i64 (n : Int))).run Tryz.prog W = .ok (.slice (some ⟨W.heap.size, 0, none⟩) 0 n) (W.alloc (.cells (ia .u64 (List.replicate n 0)) 34)) := run_make_room 40 34 n Tryz.underlying40 info_u64 (by omega)
 clear hn hS hr hs
 go_enter Tryz.func54, Tryz.ntmps54
 go_wp2
 have HI0 : Hid (StoInv w w.heap.size n ws 0 none 0 (w.alloc (.cells (ia .u64 (List.replicate n 0)) 34))) := by
  refine ⟨Sl.nil, ?_, bl_alloc (Below.refl _ _) _, by simp [OwnB]⟩
  have : lnPad ws n 0 = List.replicate n 0 := by simp [lnPad, starts]
  rw [this]; exact IB.new _ _
 obtain ⟨g, hg⟩ : ∃ g, w.heap.size = g := ⟨_, rfl⟩
 obtain ⟨W, hW⟩ : ∃ W, w.alloc (.cells (ia .u64 (List.replicate n 0)) 34) = W := ⟨_, rfl⟩
 have HI1 : Hid (StoInv w g n ws 0 none 0 W) := by show StoInv _ _ _ _ _ _ _ _; rw [← hg, ← hW]; exact HI0.out
 have hgw : w.heap.size ≤ g := by omega
 rw [hg, hW]
 clear hmk hg hW HI0
 go_loopw [17, 3, 4, 6, 18, 19, 20, 21, 22, 23, 24, 25, 26, 27, 28, 29, 30, 31, 32, 33, 34, 35] (fun i p l _ _ _ _ _ _ _ _ _ _ _ _ _ _ _ _ _ _ _ wr => ∃ (k : Nat) (A' : Option Addr) (c' : Nat), k ≤ n ∧ i = .int .i64 k ∧ p = .slice A' k c' ∧ l = .slice (some ⟨g, 0, none⟩) k n ∧ StoInv w g n ws k A' c' wr) (fun i p l _ _ _ _ _ _ _ _ _ _ _ _ _ _ _ _ _ _ _ _ => n - (intOf i).toNat)
 case atStart => exact ⟨0, none, 0, by omega, rfl, rfl, rfl, HI1.out⟩
 case round =>
  clear HI1
  obtain ⟨k, A', c', hk, rfl, rfl, rfl, hP, hI, hB, hO⟩ := hrel
  have HP := Lib.hid hP
  have HI := Lib.hid hI
  have HB := Lib.hid hB
  have HO := Lib.hid hO
  by_cases hlt : k < n
  · have hkl : k < ws.length := by rw [HN.out]; exact hlt
    obtain ⟨gw, ow, hA, hl, c1, c2⟩ := (HS.out.keep (fun b hb => hB.block b (HS.out.lt hb))).wr hkl
    obtain ⟨⟨of, v⟩, hp⟩ : ∃ p, ws[k] = p := ⟨_, rfl⟩
    have hpp := HR.out _ (List.getElem_mem hkl)
    rw [hp] at c1 c2 hpp
    have HPP := Lib.hid hp
    have hof : 0 ≤ of ∧ of < 18446744073709551616 := hpp
    have HOF := Lib.hid hof
    subst hA
    rw [show 2 * k = k * 2 by omega] at c1 c2
    have hgn : ¬ gw = wr.heap.size := by omega
    have hgr := hI.lt
    clear hP hI hB hO hp hpp hof
    go_wp2_with (at_builtin; refine wpList_append_sl rfl (.tmp 21) (.tmp 27) 124 rfl 144 (.agg #[.int .u8 0, .int .u64 0, .int .u64 0]) 3 24 rfl (by omega) Tryz.underlying124 info_instr (by omega) A' k c' (pcells (insSt (ws.take k))) ⟨wr.heap.size + 1, 0, none⟩ 1 1 [.int .u8 1, .int .u64 of, .int .u64 v] rfl rfl (HP.out.keep (fun b hb => ((bl_alloc (bl_alloc (Below.refl _ _) _) _ : Below wr.heap.size wr _).block b (HP.out.lt hb)))) rfl (by omega) (by have := cells_three (wr.alloc (.cells #[.int .u64 of, .int .u64 v] 122)) 144 (.int .u8 1) (.int .u64 of) (.int .u64 v); simpa using this) (ins_one _ _ _) (by omega) ?_; intro A2 c2' w2 HO2 HC2 HW2 HG2; have hsz : wr.heap.size + 2 ≤ w2.heap.size := (by have := HC2.out.size; simpa using this); have hno : ∀ b, wr.heap.size ≤ b → ¬ OwnB A' b := (fun b hb ho => by have := HP.out.lt ho; omega); have m0 : w2.cell? ⟨wr.heap.size, 0, none⟩ = some (.int .u64 of) := ((HC2.out.cells _ _ (by simp; omega) (hno _ (Nat.le_refl _))).trans (by go_simp)); have HI2 : Hid (IB .u64 34 w2 g (lnPad ws n k)) := (((HI.out.alloc _).alloc _).ch HC2.out (fun ho => (HO.out g ho).2 rfl)); have m1 : wr.heap.size < w2.heap.size := (by omega); clear hno)
    go_wp2_with (first | (go_at_call 72; refine (memStart _ of HOF.out).mono ?_; rintro e w' ⟨rfl, rfl⟩) | (at_builtin; refine wpList_append_ib rfl (.tmp 29) (.tmp 33) 40 rfl 34 Tryz.underlying40 info_u64 g k n ⟨w2.heap.size, 0, none⟩ 1 (startOf of) (lnPad ws n k) rfl rfl (HI2.out.alloc _) hlt (by rw [length_lnPad ws n k HN.out hk]; exact Nat.le_refl _) (by simp [go_sem]) ?_))
    refine ⟨⟨k + 1, A2, c2', by omega, by go_num, rfl, rfl, ?_, ?_, ?_, ?_⟩, by simp [intOf]; omega⟩
    · have hx := HO2.out
      have e1 : pcells (insSt (ws.take (k + 1))) = pcells (insSt (ws.take k)) ++ [.int .u8 1, .int .u64 of, .int .u64 v] := by
       rw [List.take_succ_eq_append_getElem hkl, HPP.out, insSt, List.map_append, pcells_append]; rfl
      rw [e1]
      refine hx.keep (fun b hb => ?_)
      have hbl := hx.lt hb
      have hbg : b ≠ g := by
       rcases HW2.out b hb with h | h
       · exact (HO.out b h).2
       · rw [h]; simp; omega
      rw [Below.heap_setCell _ _ _ _ hbg, Below.heap_alloc _ _ _ hbl]
    · have := (HI2.out.alloc (.cells #[.int .u64 (startOf of)] 34)).set k (startOf of)
      rw [← lnPad_set ws n k HN.out hlt, HPP.out]
      exact this
    · refine bl_set (bl_alloc (bl_ch (bl_alloc (bl_alloc HB.out _) _) HC2.out (fun b hb => (HO.out b hb).1)) _) hgw _
    · intro b hb
      rcases HW2.out b hb with h | h
      · exact HO.out b h
      · have := HB.out.size
        rw [h]; simp; omega
  · obtain rfl : k = n := by omega
    have hI' : IB .u64 34 wr g (starts ws) := by rw [← lnPad_all ws k HN.out]; exact hI
    have hP' : Sl 144 3 wr A' k c' (pcells (insSt ws)) := by rw [List.take_of_length_le (by rw [HN.out]; omega)] at hP; exact hP
    have hsl : (starts ws).length = k := by simp [starts, HN.out]
    have HSRT := Lib.hid (sortQ_any wr g 0 k k (starts ws) hsl h1 hm HSo.out (by have := hI'.sl (by rw [hsl]; unfold maxLen; omega); rwa [hsl] at this))
    have hbz : bsz wr g = k := by rw [bsz_cb hI']; simp [ia, hsl]
    have HBZ := Lib.hid hbz
    have HCPT := Lib.hid (fun W (hI : IB .u64 34 W g (srtL (starts ws))) => compactU W g k (srtL (starts ws)) (by rw [srtL_length]; exact hsl) h1 (by omega) hI)
    clear hbz
    have HP' := Lib.hid hP'
    clear hP hI hB hO hI' hP' HP HI hsl
    go_wp2_with (first | (go_at_call 73; refine HSRT.out.mono ?_; rintro e wS ⟨rfl, hSl, hSc, hSz⟩; have HSL := Lib.hid hSl; have HSC := Lib.hid hSc; have HSZ := Lib.hid hSz; clear hSl hSc hSz) | (go_at_call 74; refine (HCPT.out wS (ib_of_sl HSL.out (HSZ.out.trans HBZ.out))).mono ?_; rintro e w3 ⟨zs, rfl, hZ, hzt, hC3⟩; have HZ := Lib.hid hZ; have HZT := Lib.hid hzt; have HC3 := Lib.hid hC3; clear hZ hzt hC3))
    have HI2 : Hid (StoInv2 w g k ws zs (cpt (srtL (starts ws))) 0 A' c' w3) := by
     refine ⟨?_, HZ.out, bl_ch (bl_ch HB.out HSC.out (fun b hb => by rw [show b = g from hb]; exact hgw)) HC3.out (fun b hb => by rw [show b = g from hb]; exact hgw), HO.out⟩
     have h1 := (HP'.out.keep (w' := wS) (fun b hb => HSC.out.block b (HP'.out.lt hb) (fun h => (HO.out b hb).2 h))).keep (w' := w3) (fun b hb => HC3.out.block b (Nat.lt_of_lt_of_le (HP'.out.lt hb) HSC.out.size) (fun h => (HO.out b hb).2 h))
     simpa [insFl] using h1
    have hzl : (cpt (srtL (starts ws))).length ≤ k := by have := cpt_le (srtL (starts ws)); rw [srtL_length] at this; simp [starts] at this; rw [HN.out] at this; exact this
    obtain ⟨cs, hcs⟩ : ∃ cs, cpt (srtL (starts ws)) = cs := ⟨_, rfl⟩
    obtain ⟨q, hq⟩ : ∃ q, cs.length = q := ⟨_, rfl⟩
    have HCS := Lib.hid hcs
    have HQ := Lib.hid hq
    rw [hcs] at HI2 HZT hzl ⊢
    rw [hq] at HZT hzl ⊢
    clear hcs hq HSRT HCPT HZ HC3 HB HO HP'
    go_loopw [41, 3, 8, 42, 43, 44, 45, 46, 47, 48, 49, 50] (fun i p _ _ _ _ _ _ _ _ _ _ wr => ∃ (j : Nat) (A' : Option Addr) (c' : Nat), j ≤ q ∧ i = .int .i64 j ∧ p = .slice A' (k + j) c' ∧ StoInv2 w g k ws zs cs j A' c' wr) (fun i _ _ _ _ _ _ _ _ _ _ _ _ => q - (intOf i).toNat)
    case atStart => exact ⟨0, _, _, by omega, rfl, rfl, HI2.out⟩
    case round =>
     clear HI2
     obtain ⟨j, A1, c1, hj, rfl, rfl, hP, hI, hB, hO⟩ := hrel
     have HP := Lib.hid hP
     have HI := Lib.hid hI
     have HB := Lib.hid hB
     have HO := Lib.hid hO
     have hgr := hI.lt
     by_cases hjq : j < q
     · have hjl : j < cs.length := by rw [HQ.out]; exact hjq
       obtain ⟨l, hl⟩ : ∃ l, cs[j] = l := ⟨_, rfl⟩
       have hzl' : q ≤ zs.length := by have := congrArg List.length HZT.out; rw [List.length_take, HQ.out] at this; omega
       have hzj : zs[j]'(by omega) = l := by
        have h1 : (zs.take q)[j]'(by rw [List.length_take]; omega) = l := by
         have h2 := HZT.out
         simp only [h2]; exact hl
        rwa [List.getElem_take] at h1
       have cj : wr.cell? ⟨g, j, none⟩ = some (.int .u64 l) := by rw [hI.cell (by omega), hzj]
       have HL := Lib.hid hl
       have hjn : j < k := by omega
       clear hP hI hB hO hl hzj
       go_wp2_with (at_builtin; refine wpList_append_sl rfl (.tmp 45) (.tmp 48) 124 rfl 144 (.agg #[.int .u8 0, .int .u64 0, .int .u64 0]) 3 24 rfl (by omega) Tryz.underlying124 info_instr (by omega) A1 (k + j) c1 (pcells (insSt ws ++ insFl (cs.take j))) ⟨wr.heap.size, 0, none⟩ 1 1 [.int .u8 2, .int .u64 l, .int .u64 0] rfl rfl (HP.out.keep (fun b hb => Below.heap_alloc _ _ _ (HP.out.lt hb))) rfl (by omega) (cells_three wr 144 _ _ _) (ins_one _ _ _) (by omega) ?_; intro A2 c2' w2 HO2 HC2 HW2 HG2)
       refine ⟨⟨j + 1, A2, c2', by omega, by go_num, rfl, ?_, ?_, ?_, ?_⟩, by simp [intOf]; omega⟩
       · have e1 : pcells (insSt ws ++ insFl (cs.take (j + 1))) = pcells (insSt ws ++ insFl (cs.take j)) ++ [.int .u8 2, .int .u64 l, .int .u64 0] := by
          rw [List.take_succ_eq_append_getElem hjl, HL.out, insFl, List.map_append, ← List.append_assoc, pcells_append]; rfl
         rw [e1]; exact HO2.out
       · exact (HI.out.alloc _).ch HC2.out (fun ho => (HO.out g ho).2 rfl)
       · exact bl_ch (bl_alloc HB.out _) HC2.out (fun b hb => (HO.out b hb).1)
       · intro b hb
         have := HB.out.size
         rcases HW2.out b hb with h | h
         · exact HO.out b h
         · rw [h]; simp; omega
     · obtain rfl : j = q := by omega
       clear hP hI hB hO
       go_wp2_with (at_builtin; refine wpList_append_sl rfl (.tmp 51) (.tmp 53) 124 rfl 144 (.agg #[.int .u8 0, .int .u64 0, .int .u64 0]) 3 24 rfl (by omega) Tryz.underlying124 info_instr (by omega) A1 (k + j) c1 (pcells (insSt ws ++ insFl (cs.take j))) ⟨wr.heap.size, 0, none⟩ 1 1 [.int .u8 3, .int .u64 0, .int .u64 0] rfl rfl (HP.out.keep (fun b hb => Below.heap_alloc _ _ _ (HP.out.lt hb))) rfl (by omega) (cells_three wr 144 _ _ _) (ins_one _ _ _) (by omega) ?_; intro A2 c2' w2 HO2 HC2 HW2 HG2)
       go_ret
       have hE : storesX ws = insSt ws ++ insFl (cs.take j) ++ [(3, 0, 0)] := by
        rw [storesX, HCS.out, List.take_of_length_le (by rw [HQ.out]; exact Nat.le_refl _)]
       have hlen : (storesX ws).length = k + j + 1 := by
        rw [hE]; simp [insSt, insFl, HN.out, HQ.out]; omega
       refine ⟨A2, c2', ?_, ?_, ?_, ?_⟩
       · rw [hlen]; rfl
       · rw [hlen, hE, pcells_append]; exact HO2.out
       · exact bl_ch (bl_alloc HB.out _) HC2.out (fun b hb => (HO.out b hb).1)
       · intro b hb
         have := HB.out.size
         rcases HW2.out b hb with h | h
         · exact (HO.out b h).1
         · rw [h]; simp; omega
end Go.Proofs.YtaefkelaffijbaaGreatDoor
