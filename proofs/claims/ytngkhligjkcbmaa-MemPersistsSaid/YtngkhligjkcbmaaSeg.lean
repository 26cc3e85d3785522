/- A region that draws its order, cut at operations for which all later ones wait: quiet parts in any order, the others in the order of the text. -/
import Derived.StillTail
import Derived.Deep.Quiet
import Derived.BigQuiet
import Derived.Test.YtngkhligjkcbmaaTail
namespace Go.Proofs.Ytngkhligjkcbmaa
open Go.RowKit

section
variable {P : Program} {ops : Array Oper} {md : Region.Mode}

def sinkB2 (md : Region.Mode) (ops : Array Oper) (s n : Nat) : Bool :=
  (List.range n).all fun i => decide (i < s) || (List.range (n + 1)).any fun j => decide (i < j) && Region.waitsFor md ops j i
def chainB2 (md : Region.Mode) (ops : Array Oper) (n : Nat) : Bool :=
  (List.range ops.size).all fun t => decide (t ≤ n) || (List.range t).any fun j => decide (n ≤ j) && Region.waitsFor md ops t j
def barB (md : Region.Mode) (ops : Array Oper) (s n : Nat) : Bool := decide (n = ops.size) || (sinkB2 md ops s n && chainB2 md ops n)

theorem tail_waits2 {s n : Nat} {listed : Array Bool} (hb : barB md ops s n = true) (hn : n ≤ ops.size) (inv : HeadInv md ops n listed) :
    ∀ (d i : Nat), n - i = d → s ≤ i → i < n → listed.getD i true = false → ∀ t, n ≤ t → t ∉ Region.ready md ops listed := by
  intro d
  induction d using Nat.strongRecOn with
  | _ d ih =>
    intro i hd hsi hi hun t ht hr
    obtain ⟨_, ot, hot, hall⟩ := mem_ready.1 hr
    have htlt : t < ops.size := (Array.getElem?_eq_some_iff.1 hot).1
    simp only [barB, Bool.or_eq_true, decide_eq_true_eq, Bool.and_eq_true] at hb
    rcases hb with hb | ⟨hs, hc⟩
    · omega
    by_cases htn : t = n
    · subst htn
      have h1 := List.all_eq_true.1 hs i (List.mem_range.2 hi)
      simp only [Bool.or_eq_true, decide_eq_true_eq] at h1
      rcases h1 with h1 | h1
      · omega
      obtain ⟨j, hj, hj2⟩ := List.any_eq_true.1 h1
      simp only [Bool.and_eq_true, decide_eq_true_eq] at hj2
      obtain ⟨oj, hoj, e, he, hb, hon⟩ := Region.waitsFor_spec hj2.2
      have hjle : j ≤ t := by have := List.mem_range.1 hj; omega
      by_cases hjt : j = t
      · subst hjt
        have : oj = ot := Option.some.inj (hoj.symm.trans hot)
        subst this
        have h2 := hall e he hb
        rw [hon, getD_both hun] at h2
        cases h2
      · cases hl : listed.getD j false with
        | true =>
          have h2 := inv.closed j oj hoj hl e he hb
          rw [hon, getD_both hun] at h2
          cases h2
        | false =>
          have hjs : j < listed.size := by rw [inv.size]; omega
          exact ih (t - j) (by omega) j rfl (by omega) (by omega) (getD_in hjs hl) t (Nat.le_refl _) hr
    · have h1 := List.all_eq_true.1 hc t (List.mem_range.2 htlt)
      simp only [Bool.or_eq_true, decide_eq_true_eq] at h1
      rcases h1 with h1 | h1
      · omega
      · obtain ⟨j, hj, hj2⟩ := List.any_eq_true.1 h1
        simp only [Bool.and_eq_true, decide_eq_true_eq] at hj2
        obtain ⟨o', ho', e, he, hb, hon⟩ := Region.waitsFor_spec hj2.2
        have : o' = ot := Option.some.inj (ho'.symm.trans hot)
        subst this
        have h2 := hall e he hb
        have hjt := List.mem_range.1 hj
        rw [hon, getD_both (inv.tail j hj2.1 (by omega))] at h2
        cases h2

variable {C : World → Prop}

theorem wpAnyT_first2 {s n i : Nat} {oi : Oper} {v : Value} {L : Array Bool → Act → Prop} (hi : ops[i]? = some oi) (hsel : ∀ (j : Nat) (o : Oper) cs b, ops[j]? = some o → o.op ≠ .select cs b)
    (hb : barB md ops s n = true) (hn : n ≤ ops.size) (hsi : s ≤ i) (hin : i < n)
    (hdone : ∀ listed a, L listed a → ∀ j ∈ Region.ready md ops listed, n ≤ j) :
    ∀ (f : Nat) (listed : Array Bool) (a : Act), HeadInv md ops n listed →
      (∀ j oj, ops[j]? = some oj → j ≠ i → listed.getD j true = false → (∀ e ∈ oj.after, Region.binds md e = true → e.on ≠ i) → oi.apart ops oj = true) →
      i ∈ Region.ready md ops listed → YieldsIn P ops C oi v a →
      wpAnyT P md ops C n L f (listed.setIfInBounds i true) (a.put oi.dst v) → wpAnyT P md ops C n L (f + 1) listed a := by
  intro f
  induction f with
  | zero =>
    intro listed a inv _ hr hy H
    have hun := (mem_ready.1 hr).1
    refine ⟨fun h => (by rw [h] at hr; cases hr), fun j hj => ?_⟩
    have hjn : j < n := by
      rcases Nat.lt_or_ge j n with h | h
      · exact h
      · exact absurd hj (tail_waits2 hb hn inv _ i rfl hsi hin hun j h)
    refine ⟨hjn, ?_⟩
    by_cases hji : j = i
    · subst hji; exact hy.qOp hi H
    · have := hdone _ _ H j (ready_mono hj hji)
      omega
  | succ f ih =>
    intro listed a inv hfree hr hy H
    have hun := (mem_ready.1 hr).1
    refine ⟨fun h => (by rw [h] at hr; cases hr), fun j hj => ?_⟩
    have hjn : j < n := by
      rcases Nat.lt_or_ge j n with h | h
      · exact h
      · exact absurd hj (tail_waits2 hb hn inv _ i rfl hsi hin hun j h)
    refine ⟨hjn, ?_⟩
    by_cases hji : j = i
    · subst hji; exact hy.qOp hi H
    · have h1 := (H.2 j (ready_mono hj hji)).2
      obtain ⟨hjun, oj, hoj, hall⟩ := mem_ready.1 hj
      have hnot : ∀ e ∈ oj.after, Region.binds md e = true → e.on ≠ i := fun e he hb heq => by
        have h1 := hall e he hb
        rw [heq, getD_both hun] at h1
        cases h1
      have h2 := qOp_put hoj (hfree j oj hoj hji hjun hnot) (fun cs b => hsel i oi cs b hi) (fun cs b => hsel j oj cs b hoj) hy h1
      have hfree' : ∀ k ok, ops[k]? = some ok → k ≠ i → (listed.setIfInBounds j true).getD k true = false →
          (∀ e ∈ ok.after, Region.binds md e = true → e.on ≠ i) → oi.apart ops ok = true := fun k ok hk hki hun hno => by
        refine hfree k ok hk hki ?_ hno
        by_cases hjk : j = k
        · subst hjk; exact hjun
        · rw [getD_set_ne true hjk] at hun; exact hun
      refine qOp_mono (fun a' h3 => ih (listed.setIfInBounds j true) a' (inv.set hj hjn) hfree' (ready_mono hr (Ne.symm hji)) h3.1 ?_) h2
      rw [Array.setIfInBounds_comm _ _ hji]
      exact h3.2

/-- The parts of a region, as a test of its edges. -/
def quietB (md : Region.Mode) (ops : Array Oper) (rest : Nat → Array Bool → Bool) : Nat → Nat → Array Bool → Bool
  | 0, k, listed => rest k listed
  | n + 1, k, listed => (Region.ready md ops listed).contains k && Region.free md ops listed k && quietB md ops rest n (k + 1) (listed.setIfInBounds k true)
def seqB2 (md : Region.Mode) (ops : Array Oper) (rest : Nat → Array Bool → Bool) : Nat → Nat → Array Bool → Bool
  | 0, k, listed => rest k listed
  | n + 1, k, listed => decide (Region.ready md ops listed = [k]) && seqB2 md ops rest n (k + 1) (listed.setIfInBounds k true)
def hardB : List (Bool × Nat) → Bool
  | [] => true
  | (b, n) :: _ => !b && decide (0 < n)
def segsB (md : Region.Mode) (ops : Array Oper) : List (Bool × Nat) → Nat → Array Bool → Bool
  | [], k, listed => decide (k = ops.size) && (Region.ready md ops listed).isEmpty
  | (true, n) :: r, k, listed => hardB r && decide (k + n ≤ ops.size) && barB md ops k (k + n) && quietB md ops (segsB md ops r) n k listed
  | (false, n) :: r, k, listed => decide (k + n ≤ ops.size) && seqB2 md ops (segsB md ops r) n k listed

theorem segsB_ready {r : List (Bool × Nat)} {k : Nat} {listed : Array Bool} (hh : hardB r = true) (h : segsB md ops r k listed = true) : ∀ j ∈ Region.ready md ops listed, k ≤ j := by
  intro j hj
  rcases r with _ | ⟨⟨b, n⟩, r⟩
  · simp only [segsB, Bool.and_eq_true, List.isEmpty_iff] at h
    rw [h.2] at hj; cases hj
  · simp only [hardB, Bool.and_eq_true, Bool.not_eq_true', decide_eq_true_eq] at hh
    obtain ⟨rfl, hn⟩ := hh
    obtain ⟨m, rfl⟩ : ∃ m, n = m + 1 := ⟨n - 1, by omega⟩
    simp only [segsB, seqB2, Bool.and_eq_true, decide_eq_true_eq] at h
    rw [h.2.1] at hj
    have : j = k := by simpa using hj
    omega

/-- A statement in a box. -/
structure SegBox (p : Prop) : Prop where
  out : p
/-- What follows at the normal end of a part. -/
def segQ (Q : Exit → Act → World → Prop) (K : Act → World → Prop) (e : Exit) (a : Act) (w : World) : Prop :=
  match e with
  | .normal => SegBox (K a w)
  | e => Q e a w
theorem segs_end {Q : Exit → Act → World → Prop} {K : Act → World → Prop} {a : Act} {w : World} (h : K a w) : segQ Q K .normal a w := ⟨h⟩

def wpSegs (P : Program) (ops : Array Oper) (C : World → World → Prop) (Q : Exit → Act → World → Prop) : List (Bool × Nat) → List Oper → Act → World → Prop
  | [], _, a, w => Q .normal a w
  | (true, n) :: r, l, a, w => wpQuiet P ops (C w) (fun a' => ∀ w', C w w' → wpSegs P ops C Q r (l.drop n) a' w') (l.take n) a
  | (false, n) :: r, l, a, w => wpList P ops (segQ Q (fun a' w' => wpSegs P ops C Q r (l.drop n) a' w')) (l.take n) a w

theorem wpAnyT_lex2 {s n : Nat} {R : Nat → Array Bool → Bool} {Lq : Act → Prop} (hsel : Region.noSelect ops = true) (hb : barB md ops s n = true) (hn : n ≤ ops.size)
    (hR : ∀ listed, R n listed = true → ∀ j ∈ Region.ready md ops listed, n ≤ j) :
    ∀ (l : List Oper) (k : Nat) (listed : Array Bool) (a : Act), (∀ j, j < l.length → l[j]? = ops[k + j]?) → s ≤ k → k + l.length = n → HeadInv md ops n listed →
    quietB md ops R l.length k listed = true → wpQuiet P ops C Lq l a →
    wpAnyT P md ops C n (fun listed' a' => (R n listed' = true ∧ HeadInv md ops n listed') ∧ Lq a') l.length listed a
  | [], k, listed, a, _, _, hk, inv, hB, h => by
    have : k = n := by simpa using hk
    subst this
    exact ⟨⟨by simpa [quietB] using hB, inv⟩, h⟩
  | o :: l, k, listed, a, hl, hs, hk, inv, hB, h => by
    have h0 : ops[k]? = some o := by simpa using (hl 0 (by simp)).symm
    simp only [List.length_cons, quietB, Bool.and_eq_true] at hB
    obtain ⟨⟨hr, hf⟩, hB'⟩ := hB
    have hkn : k < n := by simp only [List.length_cons] at hk; omega
    have hr' : k ∈ Region.ready md ops listed := by simpa using hr
    have hst : qOp P ops C k (wpQuiet P ops C Lq l) a := by unfold qOp; simp only [h0]; exact h
    obtain ⟨v, hy, hK⟩ := yieldsIn_of_qOp h0 hst
    exact wpAnyT_first2 h0 (Region.noSelect_spec hsel) hb hn hs hkn (fun listed' a' hL => hR _ hL.1.1) l.length listed a inv (Region.free_spec h0 hf) hr' hy
      (wpAnyT_lex2 hsel hb hn hR l (k + 1) _ _ (fun j hj => by have := hl (j + 1) (by simp; omega); simpa [Nat.add_assoc, Nat.add_comm 1 j] using this) (by omega) (by simp only [List.length_cons] at hk; omega) (inv.set hr' hkn) hB' hK)

theorem headInv_up {n m : Nat} {listed : Array Bool} (h : HeadInv md ops n listed) (hm : n ≤ m) : HeadInv md ops m listed := ⟨h.size, h.closed, fun t ht => h.tail t (by omega)⟩

theorem letsOut_segQ {Q : Exit → Act → World → Prop} {K : Act → World → Prop} (h : LetsOut (segQ Q K)) : LetsOut Q := h
theorem wp_segQ {o : Oper} {a : Act} {w : World} {N K : Act → World → Prop} {Q : Exit → Act → World → Prop} (h : o.wp P a w N (segQ Q K)) : o.wp P a w N Q := by
  unfold Oper.wp at *
  generalize (execOp a.eval o).run P w = r at *
  cases r with
  | ok n w' =>
    cases n with
    | enter f args =>
      refine Calls.mono h fun e w'' h => ?_
      cases e <;> exact h
    | _ => exact h
  | halt hh w' =>
    cases hh <;> exact h
theorem wpOp_segQ {i : Nat} {a : Act} {w : World} {N K : Act → World → Prop} {Q : Exit → Act → World → Prop} (h : wpOp P ops (segQ Q K) i N a w) : wpOp P ops Q i N a w := by
  unfold wpOp at *
  split at h
  · exact h
  · split at h
    · rename_i hw
      rw [if_pos hw]
      exact h.imp wp_segQ (fun ⟨h1, h2⟩ => ⟨h1, letsOut_segQ h2⟩)
    · rename_i hw
      rw [if_neg hw]
      exact h

theorem wpAny_of_seq2 {R : Nat → Array Bool → Bool} {Q' : Exit → Act → World → Prop} {K : Act → World → Prop} {g n : Nat}
    (hR : ∀ listed a w, HeadInv md ops n listed → R n listed = true → K a w → wpAny P md ops Q' g listed a w) :
    ∀ (l : List Oper) (k : Nat) (listed : Array Bool) (a : Act) (w : World), (∀ j, j < l.length → l[j]? = ops[k + j]?) → k + l.length = n → HeadInv md ops k listed →
    seqB2 md ops R l.length k listed = true → wpList P ops (segQ Q' K) l a w → wpAny P md ops Q' (l.length + g) listed a w
  | [], k, listed, a, w, _, hk, inv, hB, h => by
    have : k = n := by simpa using hk
    subst this
    rw [List.length_nil, Nat.zero_add]
    exact hR _ _ _ inv (by simpa [seqB2] using hB) h.out
  | o :: l, k, listed, a, w, hl, hk, inv, hB, h => by
    have h0 : ops[k]? = some o := by simpa using (hl 0 (by simp)).symm
    simp only [List.length_cons, seqB2, Bool.and_eq_true, decide_eq_true_eq] at hB
    rw [List.length_cons, show l.length + 1 + g = (l.length + g) + 1 by omega]
    refine ⟨fun h1 => (by rw [hB.1] at h1; cases h1), fun i hi => ?_⟩
    have hi0 := hi
    rw [hB.1] at hi
    have hik : i = k := by simpa using hi
    subst hik
    have hw : wpOp P ops (segQ Q' K) i (wpList P ops (segQ Q' K) l) a w := by unfold wpOp; simp only [h0]; exact h
    have hin' : HeadInv md ops (i + 1) (listed.setIfInBounds i true) := (headInv_up inv (Nat.le_succ i)).set hi0 (Nat.lt_succ_self i)
    exact wpOp_mono (fun a' w' h' => wpAny_of_seq2 hR l (i + 1) _ a' w' (fun j hj => by have := hl (j + 1) (by simp; omega); simpa [Nat.add_assoc, Nat.add_comm 1 j] using this) (by simp only [List.length_cons] at hk; omega) hin' hB.2 h') (wpOp_segQ hw)

theorem wpAny_of_segs {C : World → World → Prop} (hC : ∀ w, C w w) {l : List Oper} {Q : Exit → Act → World → Prop} (hsel : Region.noSelect l.toArray = true) :
    ∀ (r : List (Bool × Nat)) (k : Nat) (listed : Array Bool) (a : Act) (w : World), k ≤ l.length → HeadInv md l.toArray k listed → segsB md l.toArray r k listed = true →
    wpSegs P l.toArray C Q r (l.drop k) a w → wpAny P md l.toArray Q (l.length - k) listed a w
  | [], k, listed, a, w, hk, inv, hB, h => by
    simp only [segsB, Bool.and_eq_true, decide_eq_true_eq, List.isEmpty_iff, List.size_toArray] at hB
    rw [hB.1, Nat.sub_self]
    exact ⟨hB.2, h⟩
  | (true, n) :: r, k, listed, a, w, hk, inv, hB, h => by
    simp only [segsB, Bool.and_eq_true, decide_eq_true_eq, List.size_toArray] at hB
    obtain ⟨⟨⟨hh, hn⟩, hb⟩, hq⟩ := hB
    have hlen : ((l.drop k).take n).length = n := by simp; omega
    have H := wpAnyT_lex2 (md := md) (C := C w) (s := k) (n := k + n) (R := segsB md l.toArray r) hsel hb (by simpa using hn) (fun listed' h' => segsB_ready hh h') ((l.drop k).take n) k listed a
      (fun j hj => by rw [hlen] at hj; simp [hj]) (Nat.le_refl _) (by rw [hlen]) (headInv_up inv (by omega)) (by rw [hlen]; exact hq) h
    have := wpAny_of_headT (Q' := Q) (g := l.length - (k + n)) (fun listed' a' w' hw' hL => by
      have h2 := hL.2 w' hw'
      rw [List.drop_drop] at h2
      exact wpAny_of_segs hC hsel r (k + n) listed' a' w' hn hL.1.2 hL.1.1 h2) _ _ _ _ (hC w) H
    rw [hlen, show n + (l.length - (k + n)) = l.length - k by omega] at this
    exact this
  | (false, n) :: r, k, listed, a, w, hk, inv, hB, h => by
    simp only [segsB, Bool.and_eq_true, decide_eq_true_eq, List.size_toArray] at hB
    obtain ⟨hn, hq⟩ := hB
    have hlen : ((l.drop k).take n).length = n := by simp; omega
    have := wpAny_of_seq2 (md := md) (R := segsB md l.toArray r) (Q' := Q) (K := fun a' w' => wpSegs P l.toArray C Q r ((l.drop k).drop n) a' w') (g := l.length - (k + n)) (n := k + n)
      (fun listed' a' w' inv' hR h2 => by rw [List.drop_drop] at h2; exact wpAny_of_segs hC hsel r (k + n) listed' a' w' hn inv' hR h2)
      ((l.drop k).take n) k listed a w (fun j hj => by rw [hlen] at hj; simp [hj]) (by rw [hlen]) inv (by rw [hlen]; exact hq) h
    rw [hlen, show n + (l.length - (k + n)) = l.length - k by omega] at this
    exact this

/-- A region whose parts are given as quiet (true) or in the order of the text (false), with their lengths. -/
def regB (l : List Oper) (r : List (Bool × Nat)) : Bool := Region.noSelect l.toArray && segsB .any l.toArray r 0 (Array.replicate l.length false)

theorem wp_region_segs {id : Nat} {Q : Exit → Act → World → Prop} {a : Act} {w : World} {l : List Oper} (C : World → World → Prop) (hC : ∀ w, C w w) (hCd : C w w.drew) (n : Nat) (r : List (Bool × Nat)) (hm : P.follows .mixedOrders = true)
    (hB : regB l ((true, n) :: r) = true)
    (h : wpQuiet P l.toArray (C w) (fun a' => ∀ w', C w w' → wpSegs P l.toArray C Q r (l.drop n) a' w') (l.take n) a) : (Code.region id l.toArray true).wp P Q a w := by
  simp only [regB, Bool.and_eq_true] at hB
  obtain ⟨hsel, hB⟩ := hB
  refine wp_region_any hm ?_
  have inv0 : HeadInv .any l.toArray 0 (Array.replicate l.length false) :=
    ⟨by simp, fun j oj _ hl => (by rw [getD_replicate_false] at hl; cases hl), fun t _ ht => getD_in (by simpa using ht) (getD_replicate_false _ _)⟩
  simp only [segsB, Bool.and_eq_true, decide_eq_true_eq, List.size_toArray] at hB
  obtain ⟨⟨⟨hh, hn⟩, hb⟩, hq⟩ := hB
  have hlen : (l.take n).length = n := by simp; omega
  have H := wpAnyT_lex2 (md := .any) (C := C w) (s := 0) (n := 0 + n) (R := segsB .any l.toArray r) hsel hb (by simpa using hn) (fun listed' h' => segsB_ready hh h') (l.take n) 0 _ a
    (fun j hj => by rw [hlen] at hj; simp [hj]) (Nat.le_refl _) (by rw [hlen]) (headInv_up inv0 (by omega)) (by rw [hlen]; exact hq) h
  have := wpAny_of_headT (Q' := Q) (g := l.length - n) (fun listed' a' w' hw' hL => by
    have h2 := hL.2 w' hw'
    have h3 := wpAny_of_segs (md := .any) hC hsel r (0 + n) listed' a' w' hn hL.1.2 hL.1.1 (by rw [Nat.zero_add]; exact h2)
    rwa [Nat.zero_add] at h3) _ _ _ _ hCd H
  rw [hlen, show n + (l.length - n) = l.length by omega] at this
  simpa using this

/-- Quiet parts that only read. -/
def CRead (w w' : World) : Prop := ∃ m, w' = w.drewN m
theorem wp_region_reads {id : Nat} {Q : Exit → Act → World → Prop} {a : Act} {w : World} {l : List Oper} (n : Nat) (r : List (Bool × Nat)) (hm : P.follows .mixedOrders = true) (hB : regB l ((true, n) :: r) = true)
    (h : wpQuiet P l.toArray (fun w' => ∃ m, w' = w.drewN m) (fun a' => ∀ w', (∃ m, w' = w.drewN m) → wpSegs P l.toArray CRead Q r (l.drop n) a' w') (l.take n) a) : (Code.region id l.toArray true).wp P Q a w :=
  wp_region_segs CRead (fun _ => ⟨0, rfl⟩) ⟨1, rfl⟩ n r hm hB h
/-- Quiet parts whose calls change nothing that was there. -/
def CMake (w w' : World) : Prop := ∃ x : BX w, w' = x.w
theorem wp_region_makes {id : Nat} {Q : Exit → Act → World → Prop} {a : Act} {w : World} {l : List Oper} (n : Nat) (r : List (Bool × Nat)) (hm : P.follows .mixedOrders = true) (hB : regB l ((true, n) :: r) = true)
    (h : wpQuiet P l.toArray (fun w' => ∃ x : BX w, w' = x.w) (fun a' => ∀ w', (∃ x : BX w, w' = x.w) → wpSegs P l.toArray CMake Q r (l.drop n) a' w') (l.take n) a) : (Code.region id l.toArray true).wp P Q a w :=
  wp_region_segs CMake (fun w => ⟨⟨w, Below.refl _ _⟩, rfl⟩) ⟨⟨w.drew, (Below.refl _ _).drew⟩, rfl⟩ n r hm hB h
end

section
variable {P : Program} {ops : Array Oper} {Q : Exit → Act → World → Prop} {r : List (Bool × Nat)} {l : List Oper} {a : Act} {w : World} {n : Nat}
theorem segs_nil {C : World → World → Prop} (h : Q .normal a w) : wpSegs P ops C Q [] l a w := h
theorem segs_hard {C : World → World → Prop} (h : wpList P ops (segQ Q (fun a' w' => wpSegs P ops C Q r (l.drop n) a' w')) (l.take n) a w) : wpSegs P ops C Q ((false, n) :: r) l a w := h
theorem segs_reads (h : wpQuiet P ops (fun w' => ∃ m, w' = w.drewN m) (fun a' => ∀ w', (∃ m, w' = w.drewN m) → wpSegs P ops CRead Q r (l.drop n) a' w') (l.take n) a) : wpSegs P ops CRead Q ((true, n) :: r) l a w := h
theorem segs_makes (h : wpQuiet P ops (fun w' => ∃ x : BX w, w' = x.w) (fun a' => ∀ w', (∃ x : BX w, w' = x.w) → wpSegs P ops CMake Q r (l.drop n) a' w') (l.take n) a) : wpSegs P ops CMake Q ((true, n) :: r) l a w := h
end
end Go.Proofs.Ytngkhligjkcbmaa
