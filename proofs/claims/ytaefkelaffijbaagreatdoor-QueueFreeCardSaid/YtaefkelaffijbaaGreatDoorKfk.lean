/- The queue as plain data, and the plain law of calls that interleave (merged). -/
import Derived.Test.YtaefkelaffijbaaGreatDoorKfc
namespace Go.Proofs.YtaefkelaffijbaaGreatDoor
open Go.RowKit
set_option linter.unusedVariables false
set_option linter.unusedSimpArgs false
def qfW (W : Nat) : Nat := W + 2
def qcW (W : Nat) : Nat := W + 3
def qpW (W P x : Nat) : Nat := W + 8 + x % P
/-- The words of a queue whose region begins at word W and that has P places: the first value lies in place f. -/
structure QAb (W P : Nat) (L : Nat → Int) (f : Nat) (q : List Int) : Prop where
 fP : f < P
 le : q.length ≤ P
 fst : L (qfW W) % 1099511627776 = (f : Int)
 cnt : L (qcW W) % 1099511627776 = (q.length : Int)
 val : ∀ i, i < q.length → L (qpW W P (f + i)) % 1099511627776 = gt0 q i
 emp : ∀ i, q.length ≤ i → i < P → L (qpW W P (f + i)) % 1099511627776 = 0
/-- The entries of an insertion or a removal. -/
def qEnts (W P : Nat) (ins : Bool) (f c : Nat) (v : Int) : List Ent :=
 if ins then [⟨8 * (qpW W P (f + c) : Nat), 0, v, false⟩, ⟨8 * (qfW W : Nat), (f : Int), (f : Int), false⟩, ⟨8 * (qcW W : Nat), (c : Int), (c : Int) + 1, false⟩]
 else [⟨8 * (qpW W P f : Nat), v, 0, false⟩, ⟨8 * (qfW W : Nat), (f : Int), ((f + 1) % P : Nat), false⟩, ⟨8 * (qcW W : Nat), (c : Int), (c : Int) - 1, false⟩]
/-- A call by itself: the queue afterwards, the value, the error. -/
def qApp (P : Nat) (q : List Int) (ins : Bool) (v : Int) : List Int × Int × Int :=
 if ins then (if P ≤ q.length then (q, 0, 4) else (q ++ [v], v, 0))
 else match q with
  | [] => ([], 0, 5)
  | x :: q => (q, x, 0)
section
variable {W P : Nat} {L : Nat → Int} {f c f0 : Nat} {q : List Int} {v : Int} {e0 e1 e2 : Ent}
theorem mod_win {x P : Nat} (h : x < 2 * P) : x % P = if x < P then x else x - P := by
 split
 · rename_i h1; exact Nat.mod_eq_of_lt h1
 · rename_i h1
   rw [Nat.mod_eq_sub_mod (by omega), Nat.mod_eq_of_lt (by omega)]
theorem win_inj {P f i j : Nat} (hf : f < P) (hi : i < P) (hj : j < P) (h : (f + i) % P = (f + j) % P) : i = j := by
 rw [mod_win (by omega), mod_win (by omega)] at h
 split at h <;> split at h <;> omega
theorem after_mod (e : Ent) (raw : Int) (h : 0 ≤ e.new ∧ e.new < 1099511627776) : e.after raw % 1099511627776 = e.new := by
 unfold Ent.after
 rw [Int.add_mul_emod_self_right]
 exact Int.emod_eq_of_lt h.1 h.2
theorem satL3 : satL L [e0, e1, e2] = (e0.sat (L (e0.off / 8).toNat) && e1.sat (L (e1.off / 8).toNat) && e2.sat (L (e2.off / 8).toNat)) := by
 simp [satL, wdE, List.range_succ, Bool.and_assoc]
theorem appL3 (k : Nat) : appL L [e0, e1, e2] k = if (e0.off / 8).toNat = k then e0.after (L k) else if (e1.off / 8).toNat = k then e1.after (L k) else if (e2.off / 8).toNat = k then e2.after (L k) else L k := by
 unfold appL
 have h : (List.range [e0, e1, e2].length) = [0, 1, 2] := rfl
 rw [h]
 simp only [List.find?_cons, wdE, List.getD_cons_zero, List.getD_cons_succ, List.find?_nil]
 by_cases h0 : (e0.off / 8).toNat = k
 · have b0 : ((e0.off / 8).toNat == k) = true := by simpa using h0
   rw [b0, if_pos h0]; rfl
 · have b0 : ((e0.off / 8).toNat == k) = false := by simpa using h0
   rw [b0, if_neg h0]
   by_cases h1 : (e1.off / 8).toNat = k
   · have b1 : ((e1.off / 8).toNat == k) = true := by simpa using h1
     simp only [b1]
     rw [if_pos h1]; rfl
   · have b1 : ((e1.off / 8).toNat == k) = false := by simpa using h1
     simp only [b1]
     rw [if_neg h1]
     by_cases h2 : (e2.off / 8).toNat = k
     · have b2 : ((e2.off / 8).toNat == k) = true := by simpa using h2
       simp only [b2]
       rw [if_pos h2]; rfl
     · have b2 : ((e2.off / 8).toNat == k) = false := by simpa using h2
       simp only [b2]
       rw [if_neg h2]
theorem off_wd (k : Nat) : ((8 * (k : Int)) / 8).toNat = k := by omega
theorem sat_val (raw : Int) (off old new : Int) : (⟨off, old, new, false⟩ : Ent).sat raw = (raw % 1099511627776 == old) := rfl
/-- When the entries of an insertion are satisfied, and what they make. -/
theorem QAb.put (h : QAb W P L f0 q) (hv : 0 ≤ v ∧ v < 1099511627776) (hc : c < P) (hf : f < P) (hP : P < 1000000) :
 (satL L (qEnts W P true f c v) = true ↔ f = f0 ∧ c = q.length) ∧ (f = f0 → c = q.length → QAb W P (appL L (qEnts W P true f c v)) f (q ++ [v])) := by
 have hw : ∀ k : Nat, (((8 * ((k : Nat) : Int)) : Int) / 8).toNat = k := fun k => by omega
 constructor
 · unfold qEnts
   rw [if_pos rfl, satL3]
   simp only [off_wd, sat_val, Bool.and_eq_true, beq_iff_eq, h.fst, h.cnt]
   constructor
   · rintro ⟨⟨_, h2⟩, h3⟩
     exact ⟨by omega, by omega⟩
   · rintro ⟨rfl, rfl⟩
     exact ⟨⟨h.emp _ (Nat.le_refl _) hc, rfl⟩, rfl⟩
 · rintro rfl rfl
   have happ : ∀ k, appL L (qEnts W P true f q.length v) k % 1099511627776 = if qpW W P (f + q.length) = k then v else if qfW W = k then (f : Int) else if qcW W = k then (q.length : Int) + 1 else L k % 1099511627776 := by
    intro k
    unfold qEnts
    rw [if_pos rfl, appL3]
    simp only [off_wd]
    split
    · exact after_mod _ _ hv
    · split
      · exact after_mod _ _ (by show 0 ≤ (f : Int) ∧ (f : Int) < 1099511627776; omega)
      · split
        · exact after_mod _ _ (by show 0 ≤ (q.length : Int) + 1 ∧ (q.length : Int) + 1 < 1099511627776; omega)
        · rfl
   refine ⟨hf, by simp; omega, ?_, ?_, fun i hi => ?_, fun i hi hiP => ?_⟩
   · rw [happ, if_neg (by unfold qpW qfW; omega), if_pos rfl]
   · rw [happ, if_neg (by unfold qpW qcW; omega), if_neg (by unfold qfW qcW; omega), if_pos rfl]
     simp
   · rw [happ]
     have hil : i < q.length ∨ i = q.length := by simp at hi; omega
     rcases hil with hil | rfl
     · rw [if_neg (fun he => by have := win_inj hf hc (by omega) (show (f + q.length) % P = (f + i) % P by unfold qpW at he; omega); omega), if_neg (by unfold qpW qfW; omega), if_neg (by unfold qpW qcW; omega), h.val i hil]
       simp [gt0, List.getElem?_append_left hil]
     · rw [if_pos rfl]
       simp [gt0]
   · have hi2 : q.length < i := by simp at hi; omega
     rw [happ, if_neg (fun he => by have := win_inj hf hc hiP (show (f + q.length) % P = (f + i) % P by unfold qpW at he; omega); omega), if_neg (by unfold qpW qfW; omega), if_neg (by unfold qpW qcW; omega)]
     exact h.emp i (by omega) hiP
/-- When the entries of a removal are satisfied, and what they make. -/
theorem QAb.get (h : QAb W P L f0 q) (hv : 0 ≤ v ∧ v < 1099511627776) (hc : 0 < c) (hcP : c ≤ P) (hf : f < P) (hP : P < 1000000) :
 (satL L (qEnts W P false f c v) = true ↔ f = f0 ∧ c = q.length ∧ v = gt0 q 0) ∧ (f = f0 → c = q.length → v = gt0 q 0 → QAb W P (appL L (qEnts W P false f c v)) ((f + 1) % P) q.tail) := by
 have hP0 : 0 < P := by omega
 constructor
 · unfold qEnts
   rw [if_neg (by decide), satL3]
   simp only [off_wd, sat_val, Bool.and_eq_true, beq_iff_eq, h.fst, h.cnt]
   constructor
   · rintro ⟨⟨h1, h2⟩, h3⟩
     have hff : f = f0 := by omega
     have hcc : c = q.length := by omega
     subst hff hcc
     have := h.val 0 hc
     rw [Nat.add_zero] at this
     exact ⟨rfl, rfl, by rw [← h1, this]⟩
   · rintro ⟨rfl, rfl, rfl⟩
     have := h.val 0 hc
     rw [Nat.add_zero] at this
     exact ⟨⟨this, rfl⟩, rfl⟩
 · rintro rfl rfl rfl
   have hm : (f + 1) % P < P := Nat.mod_lt _ hP0
   have happ : ∀ k, appL L (qEnts W P false f q.length (gt0 q 0)) k % 1099511627776 = if qpW W P f = k then 0 else if qfW W = k then (((f + 1) % P : Nat) : Int) else if qcW W = k then (q.length : Int) - 1 else L k % 1099511627776 := by
    intro k
    unfold qEnts
    rw [if_neg (by decide), appL3]
    simp only [off_wd]
    split
    · exact after_mod _ _ (by show (0 : Int) ≤ 0 ∧ (0 : Int) < 1099511627776; omega)
    · split
      · exact after_mod _ _ (by show 0 ≤ (((f + 1) % P : Nat) : Int) ∧ (((f + 1) % P : Nat) : Int) < 1099511627776; omega)
      · split
        · exact after_mod _ _ (by show 0 ≤ (q.length : Int) - 1 ∧ (q.length : Int) - 1 < 1099511627776; omega)
        · rfl
   have hsh : ∀ i, qpW W P ((f + 1) % P + i) = qpW W P (f + (i + 1)) := fun i => by
    unfold qpW
    rw [Nat.mod_add_mod, show f + 1 + i = f + (i + 1) by omega]
   have hff : qpW W P f = qpW W P (f + 0) := rfl
   refine ⟨hm, by have := h.le; simp; omega, ?_, ?_, fun i hi => ?_, fun i hi hiP => ?_⟩
   · rw [happ, if_neg (by unfold qpW qfW; omega), if_pos rfl]
   · rw [happ, if_neg (by unfold qpW qcW; omega), if_neg (by unfold qfW qcW; omega), if_pos rfl]
     simp; omega
   · have hi' : i + 1 < q.length := by simp at hi; omega
     have hle := h.le
     rw [hsh, happ, if_neg (fun he => by rw [hff] at he; have := win_inj hf (by omega : 0 < P) (by omega : i + 1 < P) (show (f + 0) % P = (f + (i + 1)) % P by unfold qpW at he; omega); omega), if_neg (by unfold qpW qfW; omega), if_neg (by unfold qpW qcW; omega), h.val (i + 1) hi']
     simp [gt0]
   · have hi' : q.length ≤ i + 1 := by simp at hi; omega
     rw [hsh, happ]
     by_cases hiP1 : i + 1 = P
     · rw [if_pos]
       rw [hiP1]
       unfold qpW
       rw [Nat.add_mod_right]
     · rw [if_neg (fun he => by rw [hff] at he; have := win_inj hf (by omega : 0 < P) (by omega : i + 1 < P) (show (f + 0) % P = (f + (i + 1)) % P by unfold qpW at he; omega); omega), if_neg (by unfold qpW qfW; omega), if_neg (by unfold qpW qcW; omega)]
       exact h.emp (i + 1) hi' (by omega)
/-- The managed words are those of the region. -/
def Mq (W P : Nat) : Nat → Prop := fun k => W ≤ k ∧ k < W + 8 + P
theorem qEnts_ok {n : Nat} {ins : Bool} (hv : 0 ≤ v ∧ v < 1099511627776) (hf : f < P) (hc : c ≤ P) (hci : ins = false → 0 < c) (hP : P < 1000000) (hn : W + 8 + P ≤ 8 * n) : ∀ e ∈ qEnts W P ins f c v, EntOk n (Mq W P) e := by
 have hP0 : 0 < P := by omega
 have m1 : ∀ x, x % P < P := fun x => Nat.mod_lt _ hP0
 have key : ∀ (k : Nat) (a b : Int), Mq W P k → 0 ≤ a ∧ a < 4611686018427387904 → 0 ≤ b ∧ b < 1099511627776 → EntOk n (Mq W P) ⟨8 * (k : Int), a, b, false⟩ := fun k a b hk ha hb => ⟨⟨k, hk, by have := hk.2; omega, rfl⟩, ha, hb⟩
 have k1 : ∀ x, Mq W P (qpW W P x) := fun x => by have := m1 x; unfold Mq qpW; omega
 have k2 : Mq W P (qfW W) := by unfold Mq qfW; omega
 have k3 : Mq W P (qcW W) := by unfold Mq qcW; omega
 intro e he
 unfold qEnts at he
 cases ins with
 | true =>
  rw [if_pos rfl] at he
  simp only [List.mem_cons, List.not_mem_nil, or_false] at he
  rcases he with rfl | rfl | rfl
  · exact key _ _ _ (k1 _) (by omega) hv
  · exact key _ _ _ k2 (by omega) (by omega)
  · exact key _ _ _ k3 (by omega) (by omega)
 | false =>
  have := hci rfl
  rw [if_neg (by decide)] at he
  simp only [List.mem_cons, List.not_mem_nil, or_false] at he
  rcases he with rfl | rfl | rfl
  · exact key _ _ _ (k1 _) (by omega) (by omega)
  · have := m1 (f + 1)
    exact key _ _ _ k2 (by omega) (by omega)
  · exact key _ _ _ k3 (by omega) (by omega)
theorem qEnts_len {ins : Bool} : (qEnts W P ins f c v).length = 3 := by unfold qEnts; split <;> rfl
theorem qEnts_nd {ins : Bool} : ∀ i j, i < (qEnts W P ins f c v).length → j < (qEnts W P ins f c v).length → ((qEnts W P ins f c v).getD i E0).off = ((qEnts W P ins f c v).getD j E0).off → i = j := by
 intro i j hi hj
 rw [qEnts_len] at hi hj
 have d1 : ∀ x, qpW W P x ≠ qfW W := fun x => by unfold qpW qfW; omega
 have d2 : ∀ x, qpW W P x ≠ qcW W := fun x => by unfold qpW qcW; omega
 have d3 : qfW W ≠ qcW W := by unfold qfW qcW; omega
 unfold qEnts
 have h1 := d1 f
 have h2 := d2 f
 have h3 := d1 (f + c)
 have h4 := d2 (f + c)
 rcases (by omega : i = 0 ∨ i = 1 ∨ i = 2) with rfl | rfl | rfl <;> rcases (by omega : j = 0 ∨ j = 1 ∨ j = 2) with rfl | rfl | rfl <;> split <;> simp only [List.getD_cons_zero, List.getD_cons_succ] <;> (intro he; omega)
end
section
variable {sum : List Int → Int} {at0 : Nat → Int} {n cnt N : Nat} {M : Nat → Prop} {L : Nat → Int} {σ σ' : PwS} {a c : Nat} {o oc : OpS} {xs : List Int} {D : DevS} {bs : List Bool}
theorem Inv.init (hon : On D n xs N) (hL : ∀ k, M k → 0 ≤ L k ∧ L k < 4611686018427387904) (hx : ∀ k, M k → xs[k]? = some (L k)) : Inv sum at0 n cnt M N { dev := D, busy := bs, cur := none, ops := fun _ => none } xs L :=
 ⟨hon, hL, fun a o h => (by cases h), fun _ => hx, fun c h => (by cases h), fun a o h => (by cases h), fun a o c oc h => (by cases h), fun a o c h => (by cases h), fun a o h => (by cases h)⟩
theorem Inv.addOp (h : Inv sum at0 n cnt M N σ xs L) (ha : σ.ops a = none) (hok : OpOk cnt n M o) (h0 : o.stage = 0) (h1 : o.loaded = 0) (h2 : o.ended = false) (h3 : o.done = false) (h4 : o.tgt = none) : Inv sum at0 n cnt M N { σ.setOp a o with busy := bs } xs L := by
 have key : ∀ b ob, ({ σ.setOp a o with busy := bs } : PwS).ops b = some ob → (b = a ∧ ob = o) ∨ (b ≠ a ∧ σ.ops b = some ob) := by
  intro b ob hb
  have hb2 : (if b = a then some o else σ.ops b) = some ob := hb
  by_cases hba : b = a
  · rw [if_pos hba] at hb2; injection hb2 with hb2; exact .inl ⟨hba, hb2.symm⟩
  · rw [if_neg hba] at hb2; exact .inr ⟨hba, hb2⟩
 have old : ∀ b ob, σ.ops b = some ob → b ≠ a ∧ ({ σ.setOp a o with busy := bs } : PwS).ops b = some ob := by
  intro b ob hb
  have hne : b ≠ a := fun he => by rw [he, ha] at hb; cases hb
  exact ⟨hne, (if_neg hne : (if b = a then some o else σ.ops b) = σ.ops b).trans hb⟩
 refine ⟨h.on, h.hL, fun b ob hb => ?_, h.idle, fun c hc => ?_, fun b ob hb hcb hd => ?_, fun b ob c oc hb hc hoc ht hi hs => ?_, fun b ob c hb ht => ?_, fun b ob hb he => ?_⟩
 · rcases key b ob hb with ⟨_, rfl⟩ | ⟨_, hb⟩
   · exact hok
   · exact h.ok b ob hb
 · obtain ⟨oc, g1, g2⟩ := h.run c hc
   exact ⟨oc, (old c oc g1).2, g2⟩
 · rcases key b ob hb with ⟨_, rfl⟩ | ⟨_, hb⟩
   · exact ⟨h0, h1, h2⟩
   · exact h.fresh b ob hb hcb hd
 · obtain ⟨oc', g1, _⟩ := h.run c hc
   have e := (old c oc' g1).2
   rw [hoc] at e
   injection e with e
   subst e
   rcases key b ob hb with ⟨_, rfl⟩ | ⟨_, hb⟩
   · rw [h4] at ht; cases ht
   · exact h.pos b ob c oc hb hc g1 ht hi hs
 · rcases key b ob hb with ⟨_, rfl⟩ | ⟨_, hb⟩
   · rw [h4] at ht; cases ht
   · obtain ⟨oc, g1, g2⟩ := h.inn b ob c hb ht
     exact ⟨oc, (old c oc g1).2, g2⟩
 · rcases key b ob hb with ⟨_, rfl⟩ | ⟨_, hb⟩
   · rw [h2] at he; cases he
   · exact h.fin b ob hb he
theorem newOp_ok {k th : Nat} {es : List Ent} {order : List Nat} (hth : th < 8) (hk : k < cnt) (h1 : 1 ≤ es.length) (h6 : es.length ≤ 6) (he : ∀ e ∈ es, EntOk n M e) (hnd : ∀ i j, i < es.length → j < es.length → (es.getD i E0).off = (es.getD j E0).off → i = j) (hp : order.Perm (List.range es.length)) :
 OpOk cnt n M ⟨k, th, es, order, List.replicate es.length 0, 0, 0, [], false, false, false, 0, none, 0, 0⟩ := by
 refine ⟨hth, hk, h1, h6, he, hnd, hp, by simp, fun q => ?_⟩
 show 0 ≤ gt0 (List.replicate es.length 0) q ∧ _
 have : gt0 (List.replicate es.length (0 : Int)) q = 0 := by unfold gt0; simp [List.getD_eq_getElem?_getD, List.getElem?_replicate]; split <;> rfl
 rw [this]; omega
theorem enter_cur (s : Nat) : (σ.enter sum at0 c oc s).cur = σ.cur ∨ (σ.enter sum at0 c oc s).cur = none := by
 unfold PwS.enter
 split
 · exact .inl rfl
 · exact .inr rfl
theorem adv_cur : (σ.adv sum at0 a o c oc).cur = σ.cur ∨ (σ.adv sum at0 a o c oc).cur = none := by
 unfold PwS.adv
 split
 · unfold PwS.load
   dsimp only
   split
   · exact .inl rfl
   · split
     · split
       · exact enter_cur _
       · exact .inl rfl
     · exact .inr rfl
 · rw [OpS.pos_at]
   dsimp only
   split
   · exact .inl rfl
   · split
     · exact enter_cur _
     · exact .inl rfl
theorem fend_cur (e : Int) : (σ.fend a o e).cur = σ.cur ∨ (σ.fend a o e).cur = none := by
 unfold PwS.fend
 dsimp only
 split
 · exact .inr rfl
 · exact .inl rfl
theorem step_cur : (σ.step sum at0 a).1.cur = σ.cur ∨ (σ.step sum at0 a).1.cur = none ∨ (σ.step sum at0 a).1.cur = some a := by
 have two : ∀ {τ τ' : PwS}, (τ.cur = σ.cur ∨ τ.cur = none ∨ τ.cur = some a) → (τ'.cur = τ.cur ∨ τ'.cur = none) → (τ'.cur = σ.cur ∨ τ'.cur = none ∨ τ'.cur = some a) := by
  intro τ τ' h1 h2
  rcases h2 with h2 | h2
  · rw [h2]; exact h1
  · exact .inr (.inl h2)
 unfold PwS.step
 cases ho : σ.ops a with
 | none => exact .inl rfl
 | some o =>
  dsimp only
  split
  · exact .inl rfl
  · split
    · exact two (.inl rfl) (fend_cur _)
    · split
      · exact two (.inl rfl) (fend_cur _)
      · have h0 : (if σ.cur.isSome then σ else { σ with cur := some a } : PwS).cur = σ.cur ∨ (if σ.cur.isSome then σ else { σ with cur := some a } : PwS).cur = none ∨ (if σ.cur.isSome then σ else { σ with cur := some a } : PwS).cur = some a := by
         split
         · exact .inl rfl
         · exact .inr (.inr rfl)
        generalize (if σ.cur.isSome then σ else { σ with cur := some a } : PwS) = σ0 at h0 ⊢
        cases hoc : σ0.ops (σ0.cur.getD a) with
        | none => exact .inl rfl
        | some oc =>
         dsimp only
         have h1 := two (τ' := σ0.adv sum at0 a o (σ0.cur.getD a) oc) h0 adv_cur
         generalize σ0.adv sum at0 a o (σ0.cur.getD a) oc = τ at h1 ⊢
         cases ho1 : τ.ops a with
         | none => exact h1
         | some o1 =>
          dsimp only
          split
          · exact two h1 (fend_cur _)
          · split
            · exact two h1 (fend_cur _)
            · exact h1
theorem Eff.back {L L' : Nat → Int} (h : Eff a σ σ' L L') {x : Nat} {ox' : OpS} (hx : σ'.ops x = some ox') : ∃ ox, σ.ops x = some ox ∧ ox'.es = ox.es ∧ ox'.k = ox.k := by
 have key : (σ'.ops x).map OpS.key = (σ.ops x).map OpS.key → ∃ ox, σ.ops x = some ox ∧ ox'.es = ox.es ∧ ox'.k = ox.k := by
  intro he
  rw [hx, Option.map_some] at he
  cases hb : σ.ops x with
  | none => rw [hb] at he; cases he
  | some ox =>
   rw [hb, Option.map_some] at he
   injection he with he
   exact ⟨ox, rfl, congrArg (fun x => x.1) he, congrArg (fun x => x.2.2.1) he⟩
 rcases h with ⟨h1, h2⟩ | ⟨c, oc, oc', h1, h2, h3, h4, h5, h6, h7, h8, h9, h10, h11⟩
 · exact key (h2 x)
 · by_cases hxc : x = c
   · subst hxc
     rw [h2] at hx
     injection hx with hx
     subst hx
     exact ⟨oc, h1, h6, h8⟩
   · exact key (h11 x hxc)
end
/-- Where a call is: it has not begun; it reads (the place of the first value, the number of values, a value); its change is in progress; it has ended with a value and an error. -/
inductive QPh
 | start
 | rd (s f c : Nat) (r : RdS)
 | chg (f c : Nat) (v : Int) (a : Nat)
 | fin (v e : Int)
structure QM where
 ins : Bool
 val : Int
 th : Nat
 ph : QPh
 bg : Nat
 en : Nat
def QM0 : QM := ⟨false, 0, 0, .start, 0, 0⟩
def QPh.fresh : QPh → Bool
 | .start => true
 | _ => false
def QPh.over : QPh → Bool
 | .fin _ _ => true
 | _ => false
def qWd (W P s f : Nat) : Nat := if s = 1 then qfW W else if s = 2 then qcW W else qpW W P f
def rdOut (P : Nat) (ins : Bool) (s : Nat) (r : RdS) : Option (Int × Int) :=
 if s = 2 ∧ r.place ≠ 0 then (if ins then (if (P : Int) ≤ r.raw % 1099511627776 then some (0, 4) else none) else (if r.raw % 1099511627776 = 0 then some (0, 5) else none)) else none
def chgOut (σ : PwS) (v : Int) (a : Nat) : Option (Int × Int) := if (σ.ops a).bind OpS.res = some true then some (v, 0) else none
/-- The result of a call, once it has taken effect. -/
def QM.out (P : Nat) (σ : PwS) (m : QM) : Option (Int × Int) := match m.ph with
 | .start => none
 | .rd s f c r => rdOut P m.ins s r
 | .chg f c v a => chgOut σ v a
 | .fin v e => some (v, e)
/-- The values after some calls. -/
def qSt (P : Nat) (ms : List QM) (q0 : List Int) (ord : List Nat) : List Int := ord.foldl (fun q i => (qApp P q (ms.getD i QM0).ins (ms.getD i QM0).val).1) q0
theorem qSt_snoc (P : Nat) (ms : List QM) (q0 : List Int) (ord : List Nat) (i : Nat) : qSt P ms q0 (ord ++ [i]) = (qApp P (qSt P ms q0 ord) (ms.getD i QM0).ins (ms.getD i QM0).val).1 := by simp [qSt]
def SameCalls (ms ms' : List QM) : Prop := ∀ i, (ms'.getD i QM0).ins = (ms.getD i QM0).ins ∧ (ms'.getD i QM0).val = (ms.getD i QM0).val
theorem qSt_same {P : Nat} {ms ms' : List QM} {q0 : List Int} (h : SameCalls ms ms') (ord : List Nat) : qSt P ms' q0 ord = qSt P ms q0 ord := by
 unfold qSt
 congr 1
 funext q i
 rw [(h i).1, (h i).2]
theorem getD_of {ms : List QM} {i : Nat} {m : QM} (h : ms[i]? = some m) : ms.getD i QM0 = m := by rw [List.getD_eq_getElem?_getD, h]; rfl
theorem sameCalls_set {ms : List QM} {i : Nat} {m m' : QM} (hi : ms[i]? = some m) (h1 : m'.ins = m.ins) (h2 : m'.val = m.val) : SameCalls ms (ms.set i m') := by
 intro j
 by_cases hji : i = j
 · subst hji
   rw [getD_of (List.getElem?_set_self (List.getElem?_eq_some_iff.1 hi).1), getD_of hi]
   exact ⟨h1, h2⟩
 · rw [List.getD_eq_getElem?_getD, List.getElem?_set_ne hji, ← List.getD_eq_getElem?_getD]
   exact ⟨rfl, rfl⟩
/-- What holds of a call where it is. -/
def QPh.facts (W P : Nat) (σ : PwS) (ins : Bool) (val : Int) : QPh → Prop
 | .start => True
 | .rd s f c r => (s = 1 ∨ s = 2 ∨ (s = 3 ∧ ins = false ∧ 0 < c ∧ c ≤ P)) ∧ (s ≠ 1 → f < P) ∧ r.off = 8 * (qWd W P s f : Nat) ∧ r.th < 8 ∧ r.err = 0 ∧ (r.ended = false → r.place ≤ 2) ∧ (r.ended = true → r.place ≠ 0) ∧ (r.place ≠ 0 → 0 ≤ r.raw ∧ r.raw < 4611686018427387904 ∧ (s = 1 → r.raw % 1099511627776 < P) ∧ (s = 2 → r.raw % 1099511627776 ≤ P))
 | .chg f c v a => f < P ∧ c ≤ P ∧ (ins = true → c < P ∧ v = val) ∧ (ins = false → 0 < c) ∧ (0 ≤ v ∧ v < 1099511627776) ∧ ∃ o, σ.ops a = some o ∧ o.es = qEnts W P ins f c v
 | .fin _ _ => True
structure QMOk (W P : Nat) (q0 : List Int) (ms : List QM) (ord : List Nat) (σ : PwS) (i : Nat) (m : QM) : Prop where
 io : i ∈ ord ↔ m.out P σ ≠ none
 res : ∀ p, ord[p]? = some i → m.out P σ = some (qApp P (qSt P ms q0 (ord.take p)) m.ins m.val).2
 ph : m.ph.facts W P σ m.ins m.val
 vl : 0 ≤ m.val ∧ m.val < 1099511627776
/-- The calls at time T, of which those in ord have taken effect. -/
structure QLs (W P : Nat) (q0 : List Int) (σ : PwS) (ms : List QM) (T : Nat) (L : Nat → Int) (ord : List Nat) : Prop where
 ab : ∃ f, QAb W P L f (qSt P ms q0 ord)
 nd : ord.Nodup
 mem : ∀ i ∈ ord, i < ms.length
 ok : ∀ (i : Nat) (m : QM), ms[i]? = some m → QMOk W P q0 ms ord σ i m
 inj : ∀ (i j : Nat) (mi mj : QM) (fi ci : Nat) (vi : Int) (fj cj : Nat) (vj : Int) (a : Nat), ms[i]? = some mi → ms[j]? = some mj → mi.ph = .chg fi ci vi a → mj.ph = .chg fj cj vj a → i = j
 cur : ∀ c, σ.cur = some c → ∃ (i : Nat) (m : QM) (f k : Nat) (v : Int), ms[i]? = some m ∧ m.ph = .chg f k v c
 tm : ∀ (i : Nat) (m : QM), ms[i]? = some m → (m.ph.fresh = false → m.bg < T) ∧ (m.ph.over = true → m.en < T)
 rt : ∀ (p i k : Nat) (mi mk : QM), ord[p]? = some i → ms[i]? = some mi → ms[k]? = some mk → mk.ph.over = true → mk.en < mi.bg → k ∈ ord.take p
section
variable {W P n N T : Nat} {q0 : List Int} {σ σ' : PwS} {ms : List QM} {L L' : Nat → Int} {ord : List Nat} {i a : Nat} {m m' : QM} {sum : List Int → Int} {at0 : Nat → Int} {cnt : Nat} {xs : List Int}
theorem QLs.later (h : QLs W P q0 σ ms T L ord) {T' : Nat} (hT : T ≤ T') : QLs W P q0 σ ms T' L ord :=
 ⟨h.ab, h.nd, h.mem, h.ok, h.inj, h.cur, fun i m hi => ⟨fun hx => Nat.lt_of_lt_of_le ((h.tm i m hi).1 hx) hT, fun hx => Nat.lt_of_lt_of_le ((h.tm i m hi).2 hx) hT⟩, h.rt⟩
theorem fresh_out (h : m.ph.fresh = true) : m.out P σ = none := by
 unfold QM.out
 cases hp : m.ph <;> rw [hp] at h <;> first | rfl | cases h
theorem over_out (h : m.ph.over = true) : m.out P σ ≠ none := by
 unfold QM.out
 cases hp : m.ph with
 | fin v e => simp
 | start => rw [hp] at h; cases h
 | rd s f c r => rw [hp] at h; cases h
 | chg f c v a => rw [hp] at h; cases h
theorem qget_cases {ms : List QM} {i j : Nat} {m m' mj : QM} (hi : ms[i]? = some m) (hj : (ms.set i m')[j]? = some mj) : (j = i ∧ mj = m') ∨ (j ≠ i ∧ ms[j]? = some mj) := by
 by_cases h : j = i
 · subst h
   rw [List.getElem?_set_self (List.getElem?_eq_some_iff.1 hi).1] at hj
   injection hj with hj
   exact .inl ⟨rfl, hj.symm⟩
 · rw [List.getElem?_set_ne (Ne.symm h)] at hj
   exact .inr ⟨h, hj⟩
/-- The phase of one call changes, and perhaps it takes effect. -/
theorem QLs.upd (h : QLs W P q0 σ ms T L ord) (hi : ms[i]? = some m) (h1 : m'.ins = m.ins) (h2 : m'.val = m.val) {ord' : List Nat}
 (ho : (ord' = ord ∧ m'.out P σ' = m.out P σ ∧ ∃ f, QAb W P L' f (qSt P ms q0 ord)) ∨ (ord' = ord ++ [i] ∧ i ∉ ord ∧ m'.ph.fresh = false ∧ m'.ph.over = false ∧ m'.out P σ' = some (qApp P (qSt P ms q0 ord) m.ins m.val).2 ∧ ∃ f, QAb W P L' f (qApp P (qSt P ms q0 ord) m.ins m.val).1))
 (hph : m'.ph.facts W P σ' m'.ins m'.val)
 (hoth : ∀ (j : Nat) (mj : QM) (f c : Nat) (v : Int) (a : Nat), j ≠ i → ms[j]? = some mj → mj.ph = .chg f c v a → chgOut σ' v a = chgOut σ v a ∧ ∀ o, σ.ops a = some o → ∃ o', σ'.ops a = some o' ∧ o'.es = o.es)
 (hcur : ∀ c, σ'.cur = some c → ∃ (j : Nat) (mj : QM) (f k : Nat) (v : Int), (ms.set i m')[j]? = some mj ∧ mj.ph = .chg f k v c)
 (hinj : ∀ (f k : Nat) (v : Int) (a : Nat), m'.ph = .chg f k v a → ∀ (j : Nat) (mj : QM) (fj kj : Nat) (vj : Int), j ≠ i → ms[j]? = some mj → mj.ph = .chg fj kj vj a → False)
 (htm : (m'.ph.fresh = false → m'.bg < T) ∧ (m'.ph.over = true → m'.en < T)) (hbg : m.ph.fresh = false → m'.bg = m.bg) (hov : m.ph.over = true → m'.ph.over = true ∧ m'.en = m.en) (hen : m.ph.over = false → m'.ph.over = true → m'.en + 1 = T) :
 QLs W P q0 σ' (ms.set i m') T L' ord' := by
 have hil := (List.getElem?_eq_some_iff.1 hi).1
 have hsc := sameCalls_set hi h1 h2
 have hst := fun o => qSt_same (P := P) (q0 := q0) hsc o
 have hself := h.ok i m hi
 have hgi : ms.getD i QM0 = m := getD_of hi
 have hmem : ∀ j, j ≠ i → (j ∈ ord' ↔ j ∈ ord) := fun j hj => by
  rcases ho with ⟨e, _⟩ | ⟨e, _⟩
  · rw [e]
  · rw [e]; simp [hj]
 have hat : ∀ p j, ord'[p]? = some j → (ord[p]? = some j ∧ ord'.take p = ord.take p) ∨ (ord' = ord ++ [i] ∧ j = i ∧ p = ord.length ∧ ord'.take p = ord) := by
  intro p j hp
  rcases ho with ⟨e, _⟩ | ⟨e, _⟩
  · rw [e] at hp ⊢; exact .inl ⟨hp, rfl⟩
  · rw [e] at hp ⊢
    by_cases hpl : p < ord.length
    · rw [List.getElem?_append_left hpl] at hp
      exact .inl ⟨hp, List.take_append_of_le_length (by omega)⟩
    · have hl : p < (ord ++ [i]).length := (List.getElem?_eq_some_iff.1 hp).1
      have hpe : p = ord.length := by simp at hl; omega
      subst hpe
      exact .inr ⟨rfl, by simpa using hp.symm, rfl, by simp⟩
 refine ⟨?_, ?_, fun j hj => ?_, fun j mj hj => ?_, fun i1 j1 mi mj fi ci vi fj cj vj a g1 g2 g3 g4 => ?_, hcur, fun j mj hj => ?_, fun p i1 k mi mk g1 g2 g3 g4 g5 => ?_⟩
 · rw [hst]
   rcases ho with ⟨e, _, e2⟩ | ⟨e, _, _, _, _, e2⟩
   · rw [e]; exact e2
   · rw [e, qSt_snoc, hgi]; exact e2
 · rcases ho with ⟨e, _⟩ | ⟨e, e1, _⟩
   · rw [e]; exact h.nd
   · rw [e]
     refine List.nodup_append.2 ⟨h.nd, by simp, fun x hx y hy => ?_⟩
     have hy' : y = i := by simpa using hy
     rw [hy']
     rintro rfl
     exact e1 hx
 · rw [List.length_set]
   by_cases hji : j = i
   · rw [hji]; exact hil
   · exact h.mem j ((hmem j hji).1 hj)
 · rcases qget_cases hi hj with ⟨rfl, rfl⟩ | ⟨hne, hj⟩
   · refine ⟨?_, fun p hp => ?_, hph, by rw [h2]; exact hself.vl⟩
     · rcases ho with ⟨e, e1, _⟩ | ⟨e, _, _, _, e1, _⟩
       · rw [e, e1]; exact hself.io
       · rw [e, e1]; simp
     · rw [hst, h1, h2]
       rcases hat p j hp with ⟨a1, a2⟩ | ⟨a0, _, _, a2⟩
       · rw [a2]
         rcases ho with ⟨_, e1, _⟩ | ⟨_, e1, _⟩
         · rw [e1]; exact hself.res p a1
         · exact absurd (List.mem_of_getElem? a1) e1
       · rw [a2]
         rcases ho with ⟨e, _, _⟩ | ⟨_, _, _, _, e1, _⟩
         · rw [e] at a0
           have := congrArg List.length a0
           simp at this
         · exact e1
   · have hok := h.ok j mj hj
     have heq : mj.out P σ' = mj.out P σ := by
      unfold QM.out
      cases hp : mj.ph with
      | chg f c v a => exact (hoth j mj f c v a hne hj hp).1
      | _ => rfl
     refine ⟨by rw [heq, hmem j hne]; exact hok.io, fun p hp => ?_, ?_, hok.vl⟩
     · rw [heq, hst]
       rcases hat p j hp with ⟨a1, a2⟩ | ⟨_, a1, _⟩
       · rw [a2]; exact hok.res p a1
       · exact absurd a1 hne
     · have hf := hok.ph
       cases hp : mj.ph with
       | chg f c v a =>
        rw [hp] at hf
        obtain ⟨f1, f2, f3, f4, f5, o, g1, g2⟩ := hf
        obtain ⟨o', g3, g4⟩ := (hoth j mj f c v a hne hj hp).2 o g1
        exact ⟨f1, f2, f3, f4, f5, o', g3, g4.trans g2⟩
       | start => trivial
       | fin v e => trivial
       | rd s f c r => rw [hp] at hf; exact hf
 · rcases qget_cases hi g1 with ⟨rfl, rfl⟩ | ⟨hne, g1'⟩
   · rcases qget_cases hi g2 with ⟨rfl, rfl⟩ | ⟨hne2, g2'⟩
     · rfl
     · exact (hinj _ _ _ _ g3 j1 mj _ _ _ hne2 g2' g4).elim
   · rcases qget_cases hi g2 with ⟨rfl, rfl⟩ | ⟨hne2, g2'⟩
     · exact (hinj _ _ _ _ g4 i1 mi _ _ _ hne g1' g3).elim
     · exact h.inj i1 j1 mi mj _ _ _ _ _ _ _ g1' g2' g3 g4
 · rcases qget_cases hi hj with ⟨rfl, rfl⟩ | ⟨hne, hj⟩
   · exact htm
   · exact h.tm j mj hj
 · rcases hat p i1 g1 with ⟨a1, a2⟩ | ⟨a0, rfl, _, a2⟩
   · rw [a2]
     have nf : ∀ mx, ms[i1]? = some mx → mx.ph.fresh = false := fun mx hx => by
      cases hfr : mx.ph.fresh with
      | false => rfl
      | true => exact absurd (fresh_out (P := P) (σ := σ) hfr) ((h.ok i1 mx hx).io.1 (List.mem_of_getElem? a1))
     obtain ⟨mi0, b1, b2, b3⟩ : ∃ mi0, ms[i1]? = some mi0 ∧ mi.bg = mi0.bg ∧ mi0.ph.fresh = false := by
      rcases qget_cases hi g2 with ⟨rfl, rfl⟩ | ⟨hne, hj⟩
      · exact ⟨m, hi, hbg (nf m hi), nf m hi⟩
      · exact ⟨mi, hj, rfl, nf mi hj⟩
     have hlt := (h.tm i1 mi0 b1).1 b3
     rcases qget_cases hi g3 with ⟨rfl, rfl⟩ | ⟨hne, g3⟩
     · cases hov' : m.ph.over with
       | true =>
        obtain ⟨o1, o2⟩ := hov hov'
        exact h.rt p i1 k mi0 m a1 b1 hi hov' (by omega)
       | false =>
        have := hen hov' g4
        omega
     · exact h.rt p i1 k mi0 mk a1 b1 g3 g4 (by omega)
   · rw [a2]
     rcases qget_cases hi g3 with ⟨rfl, rfl⟩ | ⟨hne, g3⟩
     · rcases ho with ⟨e, _⟩ | ⟨_, _, _, e1, _⟩
       · rw [e] at a0
         have := congrArg List.length a0
         simp at this
       · rw [e1] at g4; cases g4
     · exact (h.ok k mk g3).io.2 (over_out g4)
/-- A new call. -/
theorem QLs.add (h : QLs W P q0 σ ms T L ord) (hf : m.ph = .start) (hv : 0 ≤ m.val ∧ m.val < 1099511627776) : QLs W P q0 σ (ms ++ [m]) T L ord := by
 have get : ∀ (j : Nat) (mj : QM), (ms ++ [m])[j]? = some mj → (j = ms.length ∧ mj = m) ∨ (j < ms.length ∧ ms[j]? = some mj) := by
  intro j mj hj
  by_cases hl : j < ms.length
  · rw [List.getElem?_append_left hl] at hj; exact .inr ⟨hl, hj⟩
  · rw [List.getElem?_append_right (by omega)] at hj
    have h0 : j - ms.length = 0 := by
     have := (List.getElem?_eq_some_iff.1 hj).1
     simp at this; omega
    rw [h0] at hj
    simp at hj
    exact .inl ⟨by omega, hj.symm⟩
 have hst : ∀ o : List Nat, (∀ x ∈ o, x < ms.length) → qSt P (ms ++ [m]) q0 o = qSt P ms q0 o := by
  intro o
  unfold qSt
  generalize q0 = q
  induction o generalizing q with
  | nil => intro _; rfl
  | cons x o ih =>
   intro hx
   rw [List.foldl_cons, List.foldl_cons]
   have h1 : (ms ++ [m]).getD x QM0 = ms.getD x QM0 := by
    rw [List.getD_eq_getElem?_getD, List.getD_eq_getElem?_getD, List.getElem?_append_left (hx x (by simp))]
   rw [h1]
   exact ih _ (fun y hy => hx y (by simp [hy]))
 have htk : ∀ p, ∀ x ∈ ord.take p, x < ms.length := fun p x hx => h.mem x (List.mem_of_mem_take hx)
 have hno : ∀ (f k : Nat) (v : Int) (a : Nat), m.ph ≠ .chg f k v a := fun f k v a he => by rw [hf] at he; cases he
 refine ⟨by rw [hst ord h.mem]; exact h.ab, h.nd, fun j hj => by have := h.mem j hj; simp; omega, fun j mj hj => ?_, fun i1 j1 mi mj fi ci vi fj cj vj a g1 g2 g3 g4 => ?_, fun c hcc => ?_, fun j mj hj => ?_, fun p i1 k mi mk g1 g2 g3 g4 g5 => ?_⟩
 · rcases get j mj hj with ⟨rfl, rfl⟩ | ⟨hl, hj⟩
   · have hn : ms.length ∉ ord := fun hx => by have := h.mem _ hx; omega
     refine ⟨⟨fun hx => absurd hx hn, fun hx => absurd (fresh_out (by rw [hf]; rfl)) hx⟩, fun p hp => absurd (List.mem_of_getElem? hp) hn, by rw [hf]; trivial, hv⟩
   · have ho := h.ok j mj hj
     exact ⟨ho.io, fun p hp => by rw [hst _ (htk p)]; exact ho.res p hp, ho.ph, ho.vl⟩
 · rcases get _ _ g1 with ⟨_, rfl⟩ | ⟨_, g1⟩
   · exact absurd g3 (hno _ _ _ _)
   · rcases get _ _ g2 with ⟨_, rfl⟩ | ⟨_, g2⟩
     · exact absurd g4 (hno _ _ _ _)
     · exact h.inj _ _ _ _ _ _ _ _ _ _ _ g1 g2 g3 g4
 · obtain ⟨j, mj, f, k, v, g1, g2⟩ := h.cur c hcc
   exact ⟨j, mj, f, k, v, by rw [List.getElem?_append_left (List.getElem?_eq_some_iff.1 g1).1]; exact g1, g2⟩
 · rcases get j mj hj with ⟨rfl, rfl⟩ | ⟨hl, hj⟩
   · rw [hf]; exact ⟨fun hx => (by cases hx), fun hx => (by cases hx)⟩
   · exact h.tm j mj hj
 · rcases get _ _ g2 with ⟨rfl, _⟩ | ⟨_, g2⟩
   · have := h.mem _ (List.mem_of_getElem? g1); omega
   · rcases get _ _ g3 with ⟨_, rfl⟩ | ⟨_, g3⟩
     · rw [hf] at g4; cases g4
     · exact h.rt p i1 k mi mk g1 g2 g3 g4 g5
end
section
variable {W P n N T : Nat} {q0 : List Int} {σ σ' : PwS} {ms : List QM} {L L' : Nat → Int} {ord : List Nat} {i a s f c : Nat} {m m' : QM} {sum : List Int → Int} {at0 : Nat → Int} {cnt : Nat} {xs xs' : List Int} {r : RdS} {o : OpS} {b : Bool} {v : Int}
theorem set_self {ms : List QM} {i : Nat} {m : QM} (hi : ms[i]? = some m) : ms.set i m = ms := by
 apply List.ext_getElem?
 intro j
 by_cases hji : i = j
 · subst hji
   rw [List.getElem?_set_self (List.getElem?_eq_some_iff.1 hi).1, hi]
 · rw [List.getElem?_set_ne hji]
/-- The phase of one call changes, and nothing that is seen; an operation may be added. -/
theorem QLs.move (h : QLs W P q0 σ ms T L ord) (hi : ms[i]? = some m) (h1 : m'.ins = m.ins) (h2 : m'.val = m.val) (hout : m'.out P σ' = m.out P σ) (hph : m'.ph.facts W P σ' m'.ins m'.val)
 (hops : ∀ x o, σ.ops x = some o → σ'.ops x = some o) (hcur : σ'.cur = σ.cur) (hc : ∀ (f k : Nat) (v : Int) (a : Nat), m.ph = .chg f k v a → σ.cur ≠ some a)
 (hnew : ∀ (f k : Nat) (v : Int) (a : Nat), m'.ph = .chg f k v a → σ.ops a = none)
 (htm : (m'.ph.fresh = false → m'.bg < T) ∧ (m'.ph.over = true → m'.en < T)) (hbg : m.ph.fresh = false → m'.bg = m.bg) (hov : m.ph.over = false) (hen : m'.ph.over = true → m'.en + 1 = T) :
 QLs W P q0 σ' (ms.set i m') T L ord := by
 refine h.upd hi h1 h2 (.inl ⟨rfl, hout, h.ab⟩) hph (fun j mj f c v a hne hj hp => ?_) (fun c hcc => ?_) (fun f k v a hp j mj fj kj vj hne hj hpj => ?_) htm hbg (fun hx => by rw [hov] at hx; cases hx) (fun _ hx => hen hx)
 · have hf := (h.ok j mj hj).ph
   rw [hp] at hf
   obtain ⟨_, _, _, _, _, o, g1, _⟩ := hf
   refine ⟨by unfold chgOut; rw [g1, hops a o g1], fun o' ho' => ⟨o', hops a o' ho', rfl⟩⟩
 · rw [hcur] at hcc
   obtain ⟨j, mj, f, k, v, g1, g2⟩ := h.cur c hcc
   by_cases hji : j = i
   · subst hji
     rw [hi] at g1
     injection g1 with g1
     subst g1
     exact absurd hcc (hc f k v c g2)
   · exact ⟨j, mj, f, k, v, by rw [List.getElem?_set_ne (Ne.symm hji)]; exact g1, g2⟩
 · have hf := (h.ok j mj hj).ph
   rw [hpj] at hf
   obtain ⟨_, _, _, _, _, o, g1, _⟩ := hf
   rw [hnew f k v a hp] at g1
   cases g1
theorem qWd_Mq (hP : 0 < P) (s f : Nat) : Mq W P (qWd W P s f) := by
 have : f % P < P := Nat.mod_lt _ hP
 unfold Mq qWd qfW qcW qpW
 split
 · omega
 · split <;> omega
/-- A read of a call is stepped. -/
theorem QLs.read (h : QLs W P q0 σ ms T L ord) (hI : Inv sum at0 n cnt (Mq W P) N σ xs L) (hN : N < 1000000) (hn : W + 8 + P ≤ 8 * n) (hi : ms[i]? = some m) (hp : m.ph = .rd s f c r) (he : r.ended = false) :
 ∃ ord', Inv sum at0 n cnt (Mq W P) (N + 1) (σ.rstep r).1 xs L ∧ (σ.rstep r).1.ops = σ.ops ∧ (σ.rstep r).1.cur = σ.cur ∧ (σ.rstep r).1.busy = σ.busy ∧ (σ.rstep r).2.place = r.place + 1 ∧ (σ.rstep r).2.th = r.th ∧
  (σ.rstep r).2.raw = (if r.place = 0 then L (qWd W P s f) else r.raw) ∧ QLs W P q0 (σ.rstep r).1 (ms.set i { m with ph := .rd s f c (σ.rstep r).2 }) T L ord' := by
 have hok := h.ok i m hi
 have hf := hok.ph
 rw [hp] at hf
 obtain ⟨f1, f2, f3, f4, f5, f6, f7, f8⟩ := hf
 obtain ⟨f0, hab⟩ := h.ab
 have hP0 : 0 < P := by have := hab.fP; omega
 have hk := qWd_Mq (W := W) hP0 s f
 have hR := hI.rstep hN hk (by have := hk.2; omega) f3 f4 he f5 (f6 he)
 obtain ⟨q1, q2, q3⟩ := hR.ops
 obtain ⟨q4, q5, q6⟩ := hR.th
 have q7 := hR.raw
 obtain ⟨q8, q9⟩ := hR.place
 have q10 := hR.ended
 have hinv := hR.inv
 obtain ⟨τ, hτ⟩ : ∃ τ, (σ.rstep r).1 = τ := ⟨_, rfl⟩
 obtain ⟨r', hr'⟩ : ∃ r', (σ.rstep r).2 = r' := ⟨_, rfl⟩
 rw [hτ] at q1 q2 q3 hinv ⊢
 rw [hr'] at q4 q5 q6 q7 q8 q9 q10 ⊢
 have hrange : 0 ≤ r'.raw ∧ r'.raw < 4611686018427387904 ∧ (s = 1 → r'.raw % 1099511627776 < P) ∧ (s = 2 → r'.raw % 1099511627776 ≤ P) := by
  rw [q7]
  by_cases hp0 : r.place = 0
  · rw [if_pos hp0]
    have hl := hI.hL _ hk
    refine ⟨hl.1, hl.2, fun hs => ?_, fun hs => ?_⟩
    · have e : qWd W P s f = qfW W := by unfold qWd; rw [if_pos hs]
      rw [e, hab.fst]; have := hab.fP; omega
    · have e : qWd W P s f = qcW W := by unfold qWd; rw [if_neg (by omega), if_pos hs]
      rw [e, hab.cnt]; have := hab.le; omega
  · rw [if_neg hp0]; exact f8 hp0
 have hfacts : (QPh.rd s f c r').facts W P τ m.ins m.val :=
  ⟨f1, f2, by rw [q5]; exact f3, by rw [q4]; exact f4, q6, fun hx => by rcases q10 with q | q; (· rw [hx] at q; cases q); (· exact q), fun _ => by omega, fun _ => hrange⟩
 have hfr : m.ph.fresh = false := by rw [hp]; rfl
 have hov : m.ph.over = false := by rw [hp]; rfl
 have htm := h.tm i m hi
 have hno : ∀ (f k : Nat) (v : Int) (a : Nat), m.ph ≠ .chg f k v a := fun f k v a hx => by rw [hp] at hx; cases hx
 have same : rdOut P m.ins s r' = rdOut P m.ins s r → QLs W P q0 τ (ms.set i { m with ph := .rd s f c r' }) T L ord := fun hx => by
  refine h.move (m' := { m with ph := .rd s f c r' }) hi rfl rfl ?_ hfacts (fun x o hxo => by rw [q1]; exact hxo) q2 (fun f k v a hx => absurd hx (hno f k v a)) (fun f k v a hx => (by cases hx)) ⟨fun _ => htm.1 hfr, fun hx => (by cases hx)⟩ (fun _ => rfl) hov (fun hx => (by cases hx))
  unfold QM.out
  rw [hp]
  exact hx
 have hres : ∃ ord', QLs W P q0 τ (ms.set i { m with ph := .rd s f c r' }) T L ord' := by
  by_cases hp0 : r.place = 0
  · rw [if_pos hp0] at q7
    have hnone : rdOut P m.ins s r = none := by unfold rdOut; rw [if_neg (by intro hx; exact hx.2 hp0)]
    have hmo : m.out P σ = none := by unfold QM.out; rw [hp]; exact hnone
    have hni : i ∉ ord := fun hx => (hok.io.1 hx) hmo
    by_cases hs : s = 2
    · have e : qWd W P s f = qcW W := by unfold qWd; rw [if_neg (by omega), if_pos hs]
      rw [e] at q7
      have hcv : r'.raw % 1099511627776 = ((qSt P ms q0 ord).length : Int) := by rw [q7]; exact hab.cnt
      have hout : rdOut P m.ins s r' = if m.ins then (if P ≤ (qSt P ms q0 ord).length then some (0, 4) else none) else (if (qSt P ms q0 ord).length = 0 then some (0, 5) else none) := by
       unfold rdOut
       rw [if_pos ⟨hs, by omega⟩, hcv]
       split
       · split
         · rw [if_pos (by omega)]
         · rw [if_neg (by omega)]
       · split
         · rw [if_pos (by omega)]
         · rw [if_neg (by omega)]
      have app : (qApp P (qSt P ms q0 ord) m.ins m.val).1 = qSt P ms q0 ord → rdOut P m.ins s r' = some (qApp P (qSt P ms q0 ord) m.ins m.val).2 → ∃ ord', QLs W P q0 τ (ms.set i { m with ph := .rd s f c r' }) T L ord' := fun h1 h2 => by
       refine ⟨ord ++ [i], h.upd (m' := { m with ph := .rd s f c r' }) hi rfl rfl (.inr ⟨rfl, hni, rfl, rfl, h2, by rw [h1]; exact h.ab⟩) hfacts (fun j mj fj cj vj aj hne hj hpj => ⟨by unfold chgOut; rw [q1], fun o' ho' => ⟨o', by rw [q1]; exact ho', rfl⟩⟩) (fun cc hcc => ?_) (fun f k v a hx => (by cases hx)) ⟨fun _ => htm.1 hfr, fun hx => (by cases hx)⟩ (fun _ => rfl) (fun hx => by rw [hov] at hx; cases hx) (fun _ hx => (by cases hx))⟩
       rw [q2] at hcc
       obtain ⟨j, mj, fj, kj, vj, g1, g2⟩ := h.cur cc hcc
       have hji : i ≠ j := fun hx => by
        subst hx
        rw [hi] at g1
        injection g1 with g1
        subst g1
        exact hno _ _ _ _ g2
       exact ⟨j, mj, fj, kj, vj, by rw [List.getElem?_set_ne hji]; exact g1, g2⟩
      rcases Bool.eq_false_or_eq_true m.ins with hins | hins
      · rw [if_pos hins] at hout
        by_cases hle : P ≤ (qSt P ms q0 ord).length
        · rw [if_pos hle] at hout
          refine app ?_ ?_
          · unfold qApp; rw [hins, if_pos rfl, if_pos hle]
          · rw [hout]; unfold qApp; rw [hins, if_pos rfl, if_pos hle]
        · rw [if_neg hle] at hout
          exact ⟨ord, same (by rw [hout, hnone])⟩
      · rw [if_neg (by rw [hins]; decide)] at hout
        by_cases hle : (qSt P ms q0 ord).length = 0
        · rw [if_pos hle] at hout
          have hnil : qSt P ms q0 ord = [] := List.eq_nil_of_length_eq_zero hle
          refine app ?_ ?_
          · rw [hnil]; unfold qApp; rw [hins, if_neg (by decide)]
          · rw [hout, hnil]; unfold qApp; rw [hins, if_neg (by decide)]
        · rw [if_neg hle] at hout
          exact ⟨ord, same (by rw [hout, hnone])⟩
    · refine ⟨ord, same ?_⟩
      rw [hnone]
      unfold rdOut
      rw [if_neg (by intro hx; exact hs hx.1)]
  · rw [if_neg hp0] at q7
    refine ⟨ord, same ?_⟩
    unfold rdOut
    rw [q7]
    by_cases hs : s = 2
    · rw [if_pos (show s = 2 ∧ r'.place ≠ 0 from ⟨hs, by omega⟩), if_pos (show s = 2 ∧ r.place ≠ 0 from ⟨hs, hp0⟩)]
    · rw [if_neg (fun hx => hs hx.1), if_neg (fun hx => hs hx.1)]
 obtain ⟨ord', hL⟩ := hres
 exact ⟨ord', hinv, q1, q2, q3, q8.symm, q4, q7, hL⟩
/-- An operation of a call is stepped. -/
theorem QLs.oper (h : QLs W P q0 σ ms T L ord) (hI : Inv sum at0 n cnt (Mq W P) N σ xs L) (hP : P < 1000000) (S : StepOk sum at0 n cnt (Mq W P) (N + 1) a o σ L σ' b xs' L') (hi : ms[i]? = some m) (hp : m.ph = .chg f c v a) :
 ∃ ord', QLs W P q0 σ' ms T L' ord' := by
 have hcur := step_cur (sum := sum) (at0 := at0) (σ := σ) (a := a)
 rw [S.eq] at hcur
 dsimp only at hcur
 have hcur' : ∀ c, σ'.cur = some c → ∃ (j : Nat) (mj : QM) (f k : Nat) (v : Int), ms[j]? = some mj ∧ mj.ph = .chg f k v c := by
  intro c' hcc
  rcases hcur with e | e | e
  · rw [e] at hcc; exact h.cur c' hcc
  · rw [e] at hcc; cases hcc
  · rw [e] at hcc
    injection hcc with hcc
    subst hcc
    exact ⟨i, m, f, c, v, hi, hp⟩
 have same : ∀ (x : Nat) (ox : OpS), σ.ops x = some ox → (σ'.ops x).map OpS.key = (σ.ops x).map OpS.key → ∃ ox', σ'.ops x = some ox' ∧ ox'.es = ox.es ∧ ox'.res = ox.res := by
  intro x ox hx hkx
  rw [hx, Option.map_some] at hkx
  cases hx' : σ'.ops x with
  | none => rw [hx'] at hkx; cases hkx
  | some ox' =>
   rw [hx', Option.map_some] at hkx
   injection hkx with hkx
   exact ⟨ox', rfl, congrArg (fun x => x.1) hkx, congrArg (fun x => x.2.2.2) hkx⟩
 -- a call whose operation keeps its result
 have keep : ∀ (j : Nat) (mj : QM) (fj cj : Nat) (vj : Int) (aj : Nat), ms[j]? = some mj → mj.ph = .chg fj cj vj aj → (σ'.ops aj).map OpS.key = (σ.ops aj).map OpS.key → chgOut σ' vj aj = chgOut σ vj aj ∧ ∀ o, σ.ops aj = some o → ∃ o', σ'.ops aj = some o' ∧ o'.es = o.es := by
  intro j mj fj cj vj aj hj hpj hk
  have hf := (h.ok j mj hj).ph
  rw [hpj] at hf
  obtain ⟨_, _, _, _, _, oj, g1, _⟩ := hf
  obtain ⟨oj', g2, g3, g4⟩ := same aj oj g1 hk
  refine ⟨by unfold chgOut; rw [g1, g2]; simp [g4], fun o ho => ?_⟩
  rw [g1] at ho
  injection ho with ho
  subst ho
  exact ⟨oj', g2, g3⟩
 -- one call whose record stays
 have one : ∀ (j : Nat) (mj : QM) (fj cj : Nat) (vj : Int) (cc : Nat) (ord' : List Nat), ms[j]? = some mj → mj.ph = .chg fj cj vj cc → ((ord' = ord ∧ mj.out P σ' = mj.out P σ ∧ ∃ f, QAb W P L' f (qSt P ms q0 ord)) ∨ (ord' = ord ++ [j] ∧ j ∉ ord ∧ mj.ph.fresh = false ∧ mj.ph.over = false ∧ mj.out P σ' = some (qApp P (qSt P ms q0 ord) mj.ins mj.val).2 ∧ ∃ f, QAb W P L' f (qApp P (qSt P ms q0 ord) mj.ins mj.val).1)) → (∃ o', σ'.ops cc = some o' ∧ ∀ o, σ.ops cc = some o → o'.es = o.es) → (∀ x, x ≠ cc → (σ'.ops x).map OpS.key = (σ.ops x).map OpS.key) → QLs W P q0 σ' ms T L' ord' := by
  intro j mj fj cj vj cc ord' hj hpj ho hes hoth
  have hov : mj.ph.over = false := by rw [hpj]; rfl
  have hfr : mj.ph.fresh = false := by rw [hpj]; rfl
  have htm := h.tm j mj hj
  have hf := (h.ok j mj hj).ph
  have hph : mj.ph.facts W P σ' mj.ins mj.val := by
   rw [hpj] at hf ⊢
   obtain ⟨f1, f2, f3, f4, f5, oj, g1, g2⟩ := hf
   obtain ⟨o', g3, g4⟩ := hes
   exact ⟨f1, f2, f3, f4, f5, o', g3, (g4 oj g1).trans g2⟩
  have := h.upd (σ' := σ') (L' := L') (m' := mj) hj rfl rfl ho hph (fun j2 mj2 f2 c2 v2 a2 hne hj2 hp2 => keep j2 mj2 f2 c2 v2 a2 hj2 hp2 (hoth a2 (fun he => hne (by rw [he] at hp2; exact (h.inj j2 j mj2 mj _ _ _ _ _ _ _ hj2 hj hp2 hpj))))) (fun c' hcc => by rw [set_self hj]; exact hcur' c' hcc) (fun f2 k2 v2 a2 hp2 j2 mj2 fj2 kj2 vj2 hne hj2 hpj2 => hne (h.inj j2 j mj2 mj _ _ _ _ _ _ _ hj2 hj hpj2 hp2)) htm (fun _ => rfl) (fun _ => ⟨by assumption, rfl⟩) (fun hx hy => by rw [hov] at hy; cases hy)
  rwa [set_self hj] at this
 rcases S.eff with ⟨e1, e2⟩ | ⟨cc, oc, oc', e1, e2, e3, e4, e5, e6, e7, e8, e9, e10, e11⟩
 · refine ⟨ord, one i m f c v a ord hi hp (.inl ⟨rfl, ?_, by rw [e1]; exact h.ab⟩) ?_ (fun x _ => e2 x)⟩
   · unfold QM.out; rw [hp]; exact (keep i m f c v a hi hp (e2 a)).1
   · have hf := (h.ok i m hi).ph
     rw [hp] at hf
     obtain ⟨_, _, _, _, _, oj, g1, _⟩ := hf
     obtain ⟨o', g2, g3, _⟩ := same a oj g1 (e2 a)
     exact ⟨o', g2, fun o ho => by rw [g1] at ho; injection ho with ho; rw [← ho]; exact g3⟩
 · obtain ⟨j, mj, fj, cj, vj, g1, g2⟩ : ∃ (j : Nat) (mj : QM) (f k : Nat) (v : Int), ms[j]? = some mj ∧ mj.ph = .chg f k v cc := by
    rcases e9 with e9 | e9
    · exact h.cur cc e9
    · rw [e9]; exact ⟨i, m, f, c, v, hi, hp⟩
   have hok := h.ok j mj g1
   have hf := hok.ph
   rw [g2] at hf
   obtain ⟨f1, f2, f3, f4, f5, oj, f6, f7⟩ := hf
   rw [e1] at f6
   injection f6 with f6
   subst f6
   obtain ⟨f0, hab⟩ := h.ab
   have hmo : mj.out P σ = none := by unfold QM.out; rw [g2]; show chgOut σ vj cc = none; unfold chgOut; rw [e1]; simp [e3]
   have hni : j ∉ ord := fun hx => (hok.io.1 hx) hmo
   have hmo' : mj.out P σ' = if satL L oc.es = true then some (vj, 0) else none := by unfold QM.out; rw [g2]; show chgOut σ' vj cc = _; unfold chgOut; rw [e2]; simp [e4]
   have hesx : ∃ o', σ'.ops cc = some o' ∧ ∀ o, σ.ops cc = some o → o'.es = o.es := ⟨oc', e2, fun o ho => by rw [e1] at ho; injection ho with ho; rw [← ho]; exact e6⟩
   rw [f7] at hmo' e5
   have hvl := hok.vl
   by_cases hsat : satL L (qEnts W P mj.ins fj cj vj) = true
   · rw [if_pos hsat] at hmo' e5
     have hfr : mj.ph.fresh = false := by rw [g2]; rfl
     have hov : mj.ph.over = false := by rw [g2]; rfl
     refine ⟨ord ++ [j], one j mj fj cj vj cc _ g1 g2 (.inr ⟨rfl, hni, hfr, hov, ?_, ?_⟩) hesx (fun x hx => e11 x hx)⟩
     · rw [hmo']
       cases hins : mj.ins with
       | true =>
        rw [hins] at hsat
        obtain ⟨k1, k2⟩ := f3 hins
        obtain ⟨p1, p2⟩ := (hab.put f5 k1 f1 hP).1.1 hsat
        unfold qApp
        rw [if_pos rfl, if_neg (by omega), k2]
       | false =>
        rw [hins] at hsat
        have k1 := f4 hins
        obtain ⟨p1, p2, p3⟩ := (hab.get f5 k1 f2 f1 hP).1.1 hsat
        obtain ⟨x, q, hq⟩ : ∃ x q, qSt P ms q0 ord = x :: q := by
         cases hqq : qSt P ms q0 ord with
         | nil => rw [hqq] at p2; simp at p2; omega
         | cons x q => exact ⟨x, q, rfl⟩
        rw [hq] at p3 ⊢
        unfold qApp
        rw [if_neg (by decide), p3]
        simp [gt0]
     · rw [e5]
       cases hins : mj.ins with
       | true =>
        rw [hins] at hsat
        obtain ⟨k1, k2⟩ := f3 hins
        obtain ⟨p1, p2⟩ := (hab.put f5 k1 f1 hP).1.1 hsat
        have := (hab.put f5 k1 f1 hP).2 p1 p2
        unfold qApp
        rw [if_pos rfl, if_neg (by omega), ← k2]
        exact ⟨_, this⟩
       | false =>
        rw [hins] at hsat
        have k1 := f4 hins
        obtain ⟨p1, p2, p3⟩ := (hab.get f5 k1 f2 f1 hP).1.1 hsat
        have := (hab.get f5 k1 f2 f1 hP).2 p1 p2 p3
        obtain ⟨x, q, hq⟩ : ∃ x q, qSt P ms q0 ord = x :: q := by
         cases hqq : qSt P ms q0 ord with
         | nil => rw [hqq] at p2; simp at p2; omega
         | cons x q => exact ⟨x, q, rfl⟩
        rw [hq] at this ⊢
        unfold qApp
        rw [if_neg (by decide)]
        exact ⟨_, this⟩
   · rw [if_neg hsat] at hmo' e5
     exact ⟨ord, one j mj fj cj vj cc _ g1 g2 (.inl ⟨rfl, by rw [hmo, hmo'], by rw [e5]; exact h.ab⟩) hesx (fun x hx => e11 x hx)⟩
end
def rd0 (th : Nat) (k : Nat) : RdS := ⟨th, 8 * (k : Int), 0, 0, false, 0⟩
def firstFree : List Bool → Nat
 | [] => 0
 | b :: bs => if b then firstFree bs + 1 else 0
def newOpQ (k th : Nat) (es : List Ent) (order : List Nat) : OpS := ⟨k, th, es, order, List.replicate es.length 0, 0, 0, [], false, false, false, 0, none, 0, 0⟩
/-- An operation of mwcas begins, in block bl.1. -/
def qBeg (W P : Nat) (σ : PwS) (th : Nat) (ins : Bool) (f c : Nat) (v : Int) (bl : Nat × List Nat) : PwS × QPh :=
 ({ σ.setOp bl.1 (newOpQ (firstFree σ.busy) th (qEnts W P ins f c v) bl.2) with busy := σ.busy.set (firstFree σ.busy) true }, .chg f c v bl.1)
/-- What follows a read that has ended. -/
def qLoad (W P : Nat) (σ : PwS) (th : Nat) (ins : Bool) (val : Int) (s f c : Nat) (raw : Int) (bl : Nat × List Nat) : PwS × QPh :=
 if s = 1 then (σ, .rd 2 (raw % 1099511627776).toNat 0 (rd0 th (qcW W)))
 else if s = 2 then
  (if ins then (if (P : Int) ≤ raw % 1099511627776 then (σ, .fin 0 4) else qBeg W P σ th ins f (raw % 1099511627776).toNat val bl)
  else if raw % 1099511627776 = 0 then (σ, .fin 0 5) else (σ, .rd 3 f (raw % 1099511627776).toNat (rd0 th (qpW W P f))))
 else qBeg W P σ th ins f c (raw % 1099511627776) bl
def qRd (W P : Nat) (σ : PwS) (m : QM) (s f c : Nat) (r : RdS) (bl : Nat × List Nat) : PwS × QPh :=
 if (σ.rstep r).2.ended then qLoad W P (σ.rstep r).1 m.th m.ins m.val s f c (σ.rstep r).2.raw bl else ((σ.rstep r).1, .rd s f c (σ.rstep r).2)
def chgd (σ : PwS) (a : Nat) : Bool := match σ.ops a with
 | some o => o.changed
 | none => false
section
variable (sum : List Int → Int) (at0 : Nat → Int)
def qStep (W P : Nat) (σ : PwS) (m : QM) (bl : Nat × List Nat) : PwS × QPh := match m.ph with
 | .start => qRd W P σ m 1 0 0 (rd0 m.th (qfW W)) bl
 | .rd s f c r => qRd W P σ m s f c r bl
 | .chg f c v a => if (σ.step sum at0 a).2 then ((σ.step sum at0 a).1, if chgd (σ.step sum at0 a).1 a then .fin v 0 else .rd 1 0 0 (rd0 m.th (qfW W))) else ((σ.step sum at0 a).1, m.ph)
 | .fin v e => (σ, m.ph)
end
/-- A call's record after its step at time T. -/
def QM.next (m : QM) (T : Nat) (ph : QPh) : QM := { m with ph := ph, bg := if m.ph.fresh then T else m.bg, en := if ph.over then T else m.en }
/-- What is needed of the place in which a new operation is made. -/
def BlOk (σ : PwS) (bl : Nat × List Nat) : Prop := σ.ops bl.1 = none ∧ bl.2.Perm (List.range 3) ∧ firstFree σ.busy < 8
section
variable {W P n N T : Nat} {q0 : List Int} {σ σ' : PwS} {ms : List QM} {L L' : Nat → Int} {ord : List Nat} {i a s f c : Nat} {m m' : QM} {sum : List Int → Int} {at0 : Nat → Int} {cnt : Nat} {xs xs' : List Int} {r : RdS} {o : OpS} {b : Bool} {v : Int} {bl : Nat × List Nat}
theorem rd0_facts {ins : Bool} {val : Int} (hth : m.th < 8) (hs : s = 1 ∨ s = 2 ∨ (s = 3 ∧ ins = false ∧ 0 < c ∧ c ≤ P)) (hf : s ≠ 1 → f < P) : (QPh.rd s f c (rd0 m.th (qWd W P s f))).facts W P σ ins val :=
 ⟨hs, hf, rfl, hth, rfl, fun _ => by show 0 ≤ 2; omega, fun h => (by cases h), fun h => absurd rfl h⟩
/-- The phase of a call that is not over changes behind its instruction. -/
theorem QLs.then_ (h : QLs W P q0 σ (ms.set i m') (T + 1) L ord) (hil : i < ms.length) {ph : QPh} {en : Nat} (hout : ({ m' with ph := ph, en := en } : QM).out P σ' = m'.out P σ) (hph : ph.facts W P σ' m'.ins m'.val)
 (hops : ∀ x o, σ.ops x = some o → σ'.ops x = some o) (hcur : σ'.cur = σ.cur) (hc : ∀ (f k : Nat) (v : Int) (a : Nat), m'.ph = .chg f k v a → σ.cur ≠ some a)
 (hnew : ∀ (f k : Nat) (v : Int) (a : Nat), ph = .chg f k v a → σ.ops a = none) (hfr : m'.ph.fresh = false) (hov : m'.ph.over = false) (hen : ph.over = true → en = T) :
 QLs W P q0 σ' (ms.set i { m' with ph := ph, en := en }) (T + 1) L ord := by
 have hi : (ms.set i m')[i]? = some m' := List.getElem?_set_self hil
 have htm := h.tm i m' hi
 have := h.move (σ' := σ') (m' := { m' with ph := ph, en := en }) hi rfl rfl hout hph hops hcur hc hnew ⟨fun _ => htm.1 hfr, fun hx => by have := hen hx; show en < T + 1; omega⟩ (fun _ => rfl) hov (fun hx => by have := hen hx; show en + 1 = T + 1; omega)
 rwa [List.set_set] at this
theorem QLs.load (h : QLs W P q0 σ (ms.set i m') (T + 1) L ord) (hI : Inv sum at0 n 8 (Mq W P) N σ xs L) (hil : i < ms.length) (hn : W + 8 + P ≤ 8 * n) (hP : P < 1000000) (hth : m'.th < 8) (hp : m'.ph = .rd s f c r) (he : r.ended = true) (hbl : BlOk σ bl) :
 Inv sum at0 n 8 (Mq W P) N (qLoad W P σ m'.th m'.ins m'.val s f c r.raw bl).1 xs L ∧
 QLs W P q0 (qLoad W P σ m'.th m'.ins m'.val s f c r.raw bl).1 (ms.set i { m' with ph := (qLoad W P σ m'.th m'.ins m'.val s f c r.raw bl).2, en := if (qLoad W P σ m'.th m'.ins m'.val s f c r.raw bl).2.over then T else m'.en }) (T + 1) L ord := by
 have hi : (ms.set i m')[i]? = some m' := List.getElem?_set_self hil
 have hok := h.ok i m' hi
 have hf := hok.ph
 rw [hp] at hf
 obtain ⟨f1, f2, f3, f4, f5, f6, f7, f8⟩ := hf
 obtain ⟨g1, g2, g3, g4⟩ := f8 (f7 he)
 obtain ⟨k, hk⟩ : ∃ k, r.raw % 1099511627776 = k := ⟨_, rfl⟩
 have hk0 : 0 ≤ k ∧ k < 1099511627776 := by omega
 have hfr : m'.ph.fresh = false := by rw [hp]; rfl
 have hov : m'.ph.over = false := by rw [hp]; rfl
 have hno : ∀ (f k : Nat) (v : Int) (a : Nat), m'.ph = .chg f k v a → σ.cur ≠ some a := fun f k v a hx => by rw [hp] at hx; cases hx
 have hmo : m'.out P σ = rdOut P m'.ins s r := by unfold QM.out; rw [hp]
 rw [hk] at g3 g4
 have kept : ∀ (ph : QPh) (en : Nat), ({ m' with ph := ph, en := en } : QM).out P σ = rdOut P m'.ins s r → ph.facts W P σ m'.ins m'.val → (∀ f k v a, ph ≠ .chg f k v a) → (ph.over = true → en = T) → QLs W P q0 σ (ms.set i { m' with ph := ph, en := en }) (T + 1) L ord :=
  fun ph en h1 h2 h3 h4 => h.then_ hil (h1.trans hmo.symm) h2 (fun _ _ hx => hx) rfl hno (fun f k v a hx => absurd hx (h3 f k v a)) hfr hov h4
 have beg : ∀ (f' c' : Nat) (v' : Int), rdOut P m'.ins s r = none → f' < P → c' ≤ P → (m'.ins = true → c' < P ∧ v' = m'.val) → (m'.ins = false → 0 < c') → (0 ≤ v' ∧ v' < 1099511627776) →
  Inv sum at0 n 8 (Mq W P) N (qBeg W P σ m'.th m'.ins f' c' v' bl).1 xs L ∧ QLs W P q0 (qBeg W P σ m'.th m'.ins f' c' v' bl).1 (ms.set i { m' with ph := (qBeg W P σ m'.th m'.ins f' c' v' bl).2, en := if (qBeg W P σ m'.th m'.ins f' c' v' bl).2.over then T else m'.en }) (T + 1) L ord := by
  intro f' c' v' h1 h2 h3 h4 h5 h6
  obtain ⟨b1, b2, b3⟩ := hbl
  have hoo : OpOk 8 n (Mq W P) (newOpQ (firstFree σ.busy) m'.th (qEnts W P m'.ins f' c' v') bl.2) :=
   newOp_ok hth b3 (by rw [qEnts_len]; omega) (by rw [qEnts_len]; omega) (qEnts_ok h6 h2 h3 h5 hP hn) qEnts_nd (by rw [qEnts_len]; exact b2)
  have hIb : Inv sum at0 n 8 (Mq W P) N (qBeg W P σ m'.th m'.ins f' c' v' bl).1 xs L := hI.addOp b1 hoo rfl rfl rfl rfl rfl
  have hnew : (qBeg W P σ m'.th m'.ins f' c' v' bl).1.ops bl.1 = some (newOpQ (firstFree σ.busy) m'.th (qEnts W P m'.ins f' c' v') bl.2) := if_pos rfl
  refine ⟨hIb, ?_⟩
  refine h.then_ (σ' := (qBeg W P σ m'.th m'.ins f' c' v' bl).1) hil ?_ ?_ (fun x o hx => ?_) rfl hno (fun f k v a hx => ?_) hfr hov (fun hx => (by cases hx))
  · rw [hmo, h1]
    show chgOut _ v' bl.1 = none
    unfold chgOut
    rw [hnew]; rfl
  · exact ⟨h2, h3, h4, h5, h6, _, hnew, rfl⟩
  · have hne : x ≠ bl.1 := fun he => by rw [he, b1] at hx; cases hx
    exact (if_neg hne).trans hx
  · injection hx with _ _ _ ha
    rw [← ha]; exact b1
 unfold qLoad
 rw [hk]
 rcases f1 with hs | hs | ⟨hs, hins, hc0, hcP⟩
 · rw [if_pos hs]
   refine ⟨hI, kept _ _ ?_ ?_ (fun _ _ _ _ hx => (by cases hx)) (fun hx => (by cases hx))⟩
   · show rdOut P m'.ins 2 _ = rdOut P m'.ins s r
     unfold rdOut
     rw [if_neg (fun hx => hx.2 rfl), if_neg (fun hx => by omega)]
   · have e : qcW W = qWd W P 2 k.toNat := by unfold qWd; rw [if_neg (by omega), if_pos rfl]
     rw [e]
     exact rd0_facts hth (.inr (.inl rfl)) (fun _ => by have := g3 hs; omega)
 · rw [if_neg (by omega), if_pos hs]
   have hrd : rdOut P m'.ins s r = if m'.ins then (if (P : Int) ≤ k then some (0, 4) else none) else (if k = 0 then some (0, 5) else none) := by
    unfold rdOut
    rw [if_pos ⟨hs, f7 he⟩, hk]
   have g4' := g4 hs
   rcases Bool.eq_false_or_eq_true m'.ins with hins | hins
   · rw [if_pos hins] at hrd ⊢
     by_cases hle : (P : Int) ≤ k
     · rw [if_pos hle] at hrd ⊢
       exact ⟨hI, kept _ _ (by rw [hrd]; rfl) trivial (fun _ _ _ _ hx => (by cases hx)) (fun _ => rfl)⟩
     · rw [if_neg hle] at hrd ⊢
       exact beg f k.toNat m'.val hrd (f2 (by omega)) (by omega) (fun _ => ⟨by omega, rfl⟩) (fun hx => by rw [hins] at hx; cases hx) hok.vl
   · rw [if_neg (by rw [hins]; decide)] at hrd ⊢
     by_cases hle : k = 0
     · rw [if_pos hle] at hrd ⊢
       exact ⟨hI, kept _ _ (by rw [hrd]; rfl) trivial (fun _ _ _ _ hx => (by cases hx)) (fun _ => rfl)⟩
     · rw [if_neg hle] at hrd ⊢
       refine ⟨hI, kept _ _ ?_ ?_ (fun _ _ _ _ hx => (by cases hx)) (fun hx => (by cases hx))⟩
       · rw [hrd]
         show rdOut P m'.ins 3 _ = none
         unfold rdOut
         rw [if_neg (fun hx => by omega)]
       · have e : qpW W P f = qWd W P 3 f := by unfold qWd; rw [if_neg (by omega), if_neg (by omega)]
         rw [e]
         exact rd0_facts hth (.inr (.inr ⟨rfl, hins, by omega, by omega⟩)) (fun _ => f2 (by omega))
 · rw [if_neg (by omega), if_neg (by omega)]
   refine beg f c k ?_ (f2 (by omega)) hcP (fun hx => by rw [hins] at hx; cases hx) (fun _ => hc0) hk0
   unfold rdOut
   rw [if_neg (fun hx => by omega)]
/-- A call reads on. -/
theorem QLs.goRd (h : QLs W P q0 σ (ms.set i m') (T + 1) L ord) (hI : Inv sum at0 n 8 (Mq W P) N σ xs L) (hN : N < 1000000) (hil : i < ms.length) (hn : W + 8 + P ≤ 8 * n) (hP : P < 1000000) (hth : m'.th < 8) (hp : m'.ph = .rd s f c r) (he : r.ended = false) (hbl : BlOk σ bl) :
 ∃ ord', Inv sum at0 n 8 (Mq W P) (N + 1) (qRd W P σ m' s f c r bl).1 xs L ∧ QLs W P q0 (qRd W P σ m' s f c r bl).1 (ms.set i { m' with ph := (qRd W P σ m' s f c r bl).2, en := if (qRd W P σ m' s f c r bl).2.over then T else m'.en }) (T + 1) L ord' := by
 have hi : (ms.set i m')[i]? = some m' := List.getElem?_set_self hil
 obtain ⟨ord', h1, h2, h3, h4, h5, h6, h7, h8⟩ := h.read hI hN hn hi hp he
 rw [List.set_set] at h8
 refine ⟨ord', ?_⟩
 unfold qRd
 cases hee : (σ.rstep r).2.ended with
 | false =>
  simp only [Bool.false_eq_true, if_false]
  exact ⟨h1, h8⟩
 | true =>
  simp only [if_true]
  have hb2 : BlOk (σ.rstep r).1 bl := ⟨by rw [h2]; exact hbl.1, hbl.2.1, by rw [h4]; exact hbl.2.2⟩
  exact h8.load (m' := { m' with ph := .rd s f c (σ.rstep r).2 }) h1 hil hn hP hth rfl hee hb2
/-- A step of a call. -/
theorem QLs.step (h : QLs W P q0 σ ms T L ord) (hI : Inv sum at0 n 8 (Mq W P) N σ xs L) (hR : RegOk n 8 (Mq W P) at0) (hN : N < 1000000) (hn : W + 8 + P ≤ 8 * n) (hP : P < 1000000) (hi : ms[i]? = some m) (hov : m.ph.over = false) (hth : m.th < 8) (hrd : ∀ s f c r, m.ph = .rd s f c r → r.ended = false) (hbl : BlOk σ bl) :
 ∃ xs' L' ord', Inv sum at0 n 8 (Mq W P) (N + 1) (qStep sum at0 W P σ m bl).1 xs' L' ∧ QLs W P q0 (qStep sum at0 W P σ m bl).1 (ms.set i (m.next T (qStep sum at0 W P σ m bl).2)) (T + 1) L' ord' := by
 have hil := (List.getElem?_eq_some_iff.1 hi).1
 have h1 := h.later (Nat.le_succ T)
 cases hp : m.ph with
 | fin v e => rw [hp] at hov; cases hov
 | start =>
  have hq : qStep sum at0 W P σ m bl = qRd W P σ m 1 0 0 (rd0 m.th (qfW W)) bl := by unfold qStep; rw [hp]
  rw [hq]
  have hb : QLs W P q0 σ (ms.set i { m with ph := .rd 1 0 0 (rd0 m.th (qfW W)), bg := T }) (T + 1) L ord := by
   refine h1.move (σ' := σ) (m' := { m with ph := .rd 1 0 0 (rd0 m.th (qfW W)), bg := T }) hi rfl rfl ?_ ?_ (fun _ _ hx => hx) rfl (fun f k v a hx => by rw [hp] at hx; cases hx) (fun f k v a hx => (by cases hx)) ⟨fun _ => Nat.lt_succ_self T, fun hx => (by cases hx)⟩ (fun hx => by rw [hp] at hx; cases hx) hov (fun hx => (by cases hx))
   · unfold QM.out; rw [hp]; rfl
   · have e : qfW W = qWd W P 1 0 := by unfold qWd; rw [if_pos rfl]
     rw [e]
     exact rd0_facts hth (.inl rfl) (fun hx => absurd rfl hx)
  obtain ⟨ord', g1, g2⟩ := hb.goRd (m' := { m with ph := .rd 1 0 0 (rd0 m.th (qfW W)), bg := T }) hI hN hil hn hP hth rfl rfl hbl
  refine ⟨xs, L, ord', g1, ?_⟩
  have hx : m.next T (qRd W P σ m 1 0 0 (rd0 m.th (qfW W)) bl).2 = { ({ m with ph := .rd 1 0 0 (rd0 m.th (qfW W)), bg := T } : QM) with ph := (qRd W P σ m 1 0 0 (rd0 m.th (qfW W)) bl).2, en := if (qRd W P σ m 1 0 0 (rd0 m.th (qfW W)) bl).2.over then T else m.en } := by
   unfold QM.next; rw [hp]; rfl
  rw [hx]
  exact g2
 | rd s f c r =>
  have hq : qStep sum at0 W P σ m bl = qRd W P σ m s f c r bl := by unfold qStep; rw [hp]
  rw [hq]
  have h2 : QLs W P q0 σ (ms.set i m) (T + 1) L ord := by rw [set_self hi]; exact h1
  obtain ⟨ord', g1, g2⟩ := h2.goRd hI hN hil hn hP hth hp (hrd s f c r hp) hbl
  refine ⟨xs, L, ord', g1, ?_⟩
  have hx : m.next T (qRd W P σ m s f c r bl).2 = { m with ph := (qRd W P σ m s f c r bl).2, en := if (qRd W P σ m s f c r bl).2.over then T else m.en } := by
   unfold QM.next; rw [hp]; rfl
  rw [hx]
  exact g2
 | chg f c v a =>
  have hok := h.ok i m hi
  have hf := hok.ph
  rw [hp] at hf
  obtain ⟨f1, f2, f3, f4, f5, o, f6, f7⟩ := hf
  obtain ⟨σ', b, xs', L', S⟩ := hI.step hR hN f6
  obtain ⟨ord', g1⟩ := h1.oper hI hP S hi hp
  have hnext : ∀ ph : QPh, m.next T ph = { m with ph := ph, en := if ph.over then T else m.en } := fun ph => by unfold QM.next; rw [hp]; rfl
  have hq : qStep sum at0 W P σ m bl = if b then (σ', if chgd σ' a then .fin v 0 else .rd 1 0 0 (rd0 m.th (qfW W))) else (σ', m.ph) := by unfold qStep; rw [hp]; simp only [S.eq]
  rw [hq]
  cases b with
  | false =>
   simp only [Bool.false_eq_true, if_false]
   refine ⟨xs', L', ord', S.inv, ?_⟩
   have hx : m.next T m.ph = m := by rw [hnext, hov]; rfl
   rw [hx, set_self hi]
   exact g1
  | true =>
   simp only [if_true]
   obtain ⟨o', t1, t2, t3, t4, t5, t6, t7, t8⟩ := S.self
   have hdn := S.inv.fin a o' t1 t2
   have hres : o'.res = some o'.changed := by unfold OpS.res; rw [if_pos hdn]
   have hcha : chgd σ' a = o'.changed := by unfold chgd; rw [t1]
   have hnc : σ'.cur ≠ some a := fun hc => by
    obtain ⟨oc, u1, u2, _⟩ := S.inv.run a hc
    rw [t1] at u1
    injection u1 with u1
    rw [← u1, hdn] at u2
    cases u2
   have g2 : QLs W P q0 σ' (ms.set i m) (T + 1) L' ord' := by rw [set_self hi]; exact g1
   have hmo : m.out P σ' = if o'.changed then some (v, 0) else none := by
    unfold QM.out; rw [hp]; show chgOut σ' v a = _; unfold chgOut; rw [t1]; show (if o'.res = some true then _ else _) = _; rw [hres]; cases o'.changed <;> rfl
   refine ⟨xs', L', ord', S.inv, ?_⟩
   rw [hnext, hcha]
   cases hch : o'.changed with
   | true =>
    rw [hch] at hmo
    exact g2.then_ hil (by rw [hmo]; rfl) trivial (fun _ _ hx => hx) rfl (fun f k v a' hx => by rw [hp] at hx; injection hx with _ _ _ hx; rw [← hx]; exact hnc) (fun f k v a hx => (by cases hx)) (by rw [hp]; rfl) hov (fun _ => rfl)
   | false =>
    rw [hch] at hmo
    refine g2.then_ hil (by rw [hmo]; rfl) ?_ (fun _ _ hx => hx) rfl (fun f k v a' hx => by rw [hp] at hx; injection hx with _ _ _ hx; rw [← hx]; exact hnc) (fun f k v a hx => (by cases hx)) (by rw [hp]; rfl) hov (fun hx => (by cases hx))
    have e : qfW W = qWd W P 1 0 := by unfold qWd; rw [if_pos rfl]
    simp only [Bool.false_eq_true, if_false]
    rw [e]
    exact rd0_facts hth (.inl rfl) (fun hx => absurd rfl hx)
end
def gOq : Option (Nat × OpS) → Nat → OpS → Nat
 | none, _, o => (if o.ended then 0 else 1) + (if o.done then 0 else 701)
 | some (c, oc), b, o => (if o.ended then 0 else 1) + (if o.done then 0 else (if c = b then 1 else 701)) + o.rem c oc
def gAq (σ : PwS) (b : Nat) : Nat := match σ.ops b with
 | none => 0
 | some o => gOq (curO σ) b o
def gSq (σ : PwS) (al : List Nat) : Nat := (al.map (gAq σ)).sum
section
variable {sum : List Int → Int} {at0 : Nat → Int} {n cnt N N' : Nat} {M : Nat → Prop} {σ σ' σ2 : PwS} {xs xs' : List Int} {L L' : Nat → Int} {a b c : Nat} {o o' oc oc' : OpS} {al : List Nat}
theorem gOq_lt (he : o'.ended = o.ended) (hd : o'.done = o.done) (hr : o'.rem c oc' < o.rem c oc) : gOq (some (c, oc')) b o' < gOq (some (c, oc)) b o := by
 simp only [gOq, he, hd]; omega
theorem gOq_fin (he : o'.ended = o.ended) (hd : o'.done = true ∨ (o'.done = o.done ∧ c ≠ b)) (hr : 0 < o.rem c oc) : gOq none b o' < gOq (some (c, oc)) b o := by
 simp only [gOq, he]
 rcases hd with hd | ⟨hd, hb⟩
 · simp only [hd, if_true]; omega
 · simp only [hd, if_neg hb]; omega
def DecQ (a : Nat) (σ σ' : PwS) : Prop := ∀ b o', σ'.ops b = some o' → ∃ o, σ.ops b = some o ∧ gOq (curO σ') b o' ≤ gOq (curO σ) b o ∧ (b = a → gOq (curO σ') b o' < gOq (curO σ) b o)
theorem DecQ.tot (h : DecQ a σ σ') (hn : al.Nodup) (ha : a ∈ al) (h1 : σ'.ops a = some o) : gSq σ' al + 1 ≤ gSq σ al := by
 have := sum_step (f := gAq σ') (g := gAq σ) (m := 0) (K := 1) al hn ha (fun b hb _ => ?_) ?_
 · simpa [gSq] using this
 · unfold gAq
   cases hb' : σ'.ops b with
   | none => simp
   | some o' =>
    obtain ⟨o, e1, e2, _⟩ := h b o' hb'
    rw [e1]; exact e2
 · unfold gAq
   obtain ⟨o2, e1, _, e3⟩ := h a o h1
   rw [h1, e1]; exact e3 rfl
theorem DecQ.of_cur (hc' : σ'.cur = some c) (hoc' : σ'.ops c = some oc') (h : ∀ b o', σ'.ops b = some o' → ∃ o, σ.ops b = some o ∧ gOq (some (c, oc')) b o' ≤ gOq (curO σ) b o ∧ (b = a → gOq (some (c, oc')) b o' < gOq (curO σ) b o)) : DecQ a σ σ' := by
 intro b o' hb
 rw [curO_of hc' hoc']
 exact h b o' hb
theorem load_decq (h : Inv sum at0 n cnt M N σ xs L) (hc : σ.cur = some c) (hoc : σ.ops c = some oc) (hs : oc.stage = 0) (i : Nat) : DecQ a σ (σ.load sum at0 c oc i) := by
 obtain ⟨oc2, g1, g2, g3, g4⟩ := h.run c hc
 rw [hoc] at g1
 injection g1 with g1
 subst g1
 have hok := h.ok c oc hoc
 rcases g4 with ⟨_, hl, hse, hM⟩ | ⟨e, _⟩ | ⟨e, _⟩ | ⟨e, _⟩
 rotate_left
 · omega
 · omega
 · omega
 obtain ⟨q, hq⟩ : ∃ q, oc.order.getD oc.loaded 0 = q := ⟨_, rfl⟩
 have hql : q < oc.es.length := by rw [← hq]; exact hok.order_get hl
 have hl6 : oc.loaded < 6 := by have := hok.order_len; have := hok.l6; omega
 obtain ⟨w1, w2, w3⟩ := hok.wd hql
 rw [load_eq h.on hq w3 w2 (hM _ w1)]
 have hcO := curO_of hc hoc
 have rem0 : ∀ ob : OpS, ob.rem c oc = 160 + (6 - oc.loaded) := fun ob => by unfold OpS.rem; rw [if_pos hs]
 split
 · split
   · unfold PwS.enter
     rw [if_pos (by omega)]
     refine DecQ.of_cur (c := c) (oc' := { ({ oc with seen := oc.seen.set q (L (wdE oc.es q)), loaded := oc.loaded + 1 } : OpS) with stage := 1, prog := ({ oc with seen := oc.seen.set q (L (wdE oc.es q)), loaded := oc.loaded + 1 } : OpS).progOf sum at0 1 }) hc (if_pos rfl) fun b ob hb => ?_
     rw [hcO]
     have hb : (if b = c then _ else if b = c then _ else σ.ops b) = some ob := hb
     have key : ∀ (o1 : OpS), ob.ended = o1.ended → ob.done = o1.done → gOq (some (c, { ({ oc with seen := oc.seen.set q (L (wdE oc.es q)), loaded := oc.loaded + 1 } : OpS) with stage := 1, prog := ({ oc with seen := oc.seen.set q (L (wdE oc.es q)), loaded := oc.loaded + 1 } : OpS).progOf sum at0 1 })) b ob < gOq (some (c, oc)) b o1 := fun o1 e1 e2 => by
      refine gOq_lt e1 e2 ?_
      rw [rem0]
      unfold OpS.rem
      rw [if_neg (by show ¬ 1 = 0; omega)]
      show 40 * (4 - 1) + (38 - ob.jat c 1) < _
      omega
     by_cases hbc : b = c
     · rw [if_pos hbc] at hb
       injection hb with hb
       exact ⟨oc, by rw [hbc]; exact hoc, Nat.le_of_lt (key oc (by rw [← hb]) (by rw [← hb])), fun _ => key oc (by rw [← hb]) (by rw [← hb])⟩
     · rw [if_neg hbc, if_neg hbc] at hb
       exact ⟨ob, hb, Nat.le_of_lt (key ob rfl rfl), fun _ => key ob rfl rfl⟩
   · refine DecQ.of_cur (c := c) (oc' := { oc with seen := oc.seen.set q (L (wdE oc.es q)), loaded := oc.loaded + 1 }) hc (if_pos rfl) fun b ob hb => ?_
     rw [hcO]
     have hb : (if b = c then _ else σ.ops b) = some ob := hb
     have key : ∀ (o1 : OpS), ob.ended = o1.ended → ob.done = o1.done → gOq (some (c, { oc with seen := oc.seen.set q (L (wdE oc.es q)), loaded := oc.loaded + 1 })) b ob < gOq (some (c, oc)) b o1 := fun o1 e1 e2 => by
      refine gOq_lt e1 e2 ?_
      rw [rem0]
      unfold OpS.rem
      rw [if_pos (show OpS.stage _ = 0 from hs)]
      show 160 + (6 - (oc.loaded + 1)) < _
      omega
     by_cases hbc : b = c
     · rw [if_pos hbc] at hb
       injection hb with hb
       exact ⟨oc, by rw [hbc]; exact hoc, Nat.le_of_lt (key oc (by rw [← hb]) (by rw [← hb])), fun _ => key oc (by rw [← hb]) (by rw [← hb])⟩
     · rw [if_neg hbc] at hb
       exact ⟨ob, hb, Nat.le_of_lt (key ob rfl rfl), fun _ => key ob rfl rfl⟩
 · unfold PwS.fin
   intro b ob hb
   rw [hcO, curO_none rfl]
   have hb : (if b = c then _ else σ.ops b) = some ob := hb
   by_cases hbc : b = c
   · rw [if_pos hbc] at hb
     injection hb with hb
     have := gOq_fin (b := b) (o' := ob) (o := oc) (c := c) (oc := oc) (by rw [← hb]) (.inl (by rw [← hb])) (by rw [rem0]; omega)
     exact ⟨oc, by rw [hbc]; exact hoc, Nat.le_of_lt this, fun _ => this⟩
   · rw [if_neg hbc] at hb
     have := gOq_fin (b := b) (o' := ob) (o := ob) (c := c) (oc := oc) rfl (.inr ⟨rfl, fun he => hbc he.symm⟩) (by rw [rem0]; omega)
     exact ⟨ob, hb, Nat.le_of_lt this, fun _ => this⟩
theorem adv1_decq (h : Inv sum at0 n cnt M N σ xs L) (hR : RegOk n cnt M at0) (hN : N < 1000000) (ha : σ.ops a = some o) (hc : σ.cur = some c) (hoc : σ.ops c = some oc) (hs : oc.stage ≠ 0) : DecQ a σ (σ.adv sum at0 a o c oc) := by
 obtain ⟨oc2, g1, g2, g3, g4⟩ := h.run c hc
 rw [hoc] at g1
 injection g1 with g1
 subst g1
 obtain ⟨h1, h4, hp⟩ := g4.info hs
 have hok := h.ok c oc hoc
 have hcO := curO_of hc hoc
 have hle : ∀ b ob, σ.ops b = some ob → ob.jat c oc.stage ≤ 36 := fun b ob hb => by have := h.jat_le hR hc hoc hb hs; omega
 obtain ⟨hj, hj37⟩ := h.jat_le hR hc hoc ha hs
 obtain ⟨hv, _, _, _⟩ := insOk (sum := sum) (xs := xs) hR hok h.on.length h1 h4 hp (j := o.jat c oc.stage) hj
 have hon := h.on.ins o.th (h.ok a o ha).th hN hv
 rw [adv_eq σ a o c oc hs (hon.err _)]
 obtain ⟨j, hje⟩ : ∃ j, o.jat c oc.stage = j := ⟨_, rfl⟩
 have hoj := hje
 rw [hje] at hj ⊢
 have remS : ∀ ob : OpS, ob.rem c oc = 40 * (4 - oc.stage) + (38 - ob.jat c oc.stage) := fun ob => by unfold OpS.rem; rw [if_neg hs]
 split
 · unfold PwS.enter
   split
   · rename_i _ hs4
     obtain ⟨oc', hoc'⟩ : ∃ oc' : OpS, { (if c = a then o.pos c oc.stage (j + 1) else oc) with stage := oc.stage + 1, prog := (if c = a then o.pos c oc.stage (j + 1) else oc).progOf sum at0 (oc.stage + 1) } = oc' := ⟨_, rfl⟩
     have e1 : oc'.stage = oc.stage + 1 := by rw [← hoc']
     have e2 : oc'.ended = oc.ended ∧ oc'.done = oc.done := by
      rw [← hoc']
      by_cases hca : c = a
      · rw [if_pos hca]
        rw [hca, ha] at hoc
        injection hoc with hoc
        rw [← hoc]; exact ⟨rfl, rfl⟩
      · rw [if_neg hca]; exact ⟨rfl, rfl⟩
     rw [hoc']
     refine DecQ.of_cur (c := c) (oc' := oc') hc (if_pos rfl) fun b ob hb => ?_
     rw [hcO]
     have hb : (if b = c then some oc' else if b = a then some (o.pos c oc.stage (j + 1)) else σ.ops b) = some ob := hb
     have key : ∀ (o1 : OpS), o1.jat c oc.stage ≤ 36 → ob.ended = o1.ended → ob.done = o1.done → gOq (some (c, oc')) b ob < gOq (some (c, oc)) b o1 := fun o1 e0 e1' e2' => by
      refine gOq_lt e1' e2' ?_
      rw [remS]
      unfold OpS.rem
      rw [e1, if_neg (by omega)]
      omega
     by_cases hbc : b = c
     · rw [if_pos hbc] at hb
       injection hb with hb
       have := key oc (hle c oc hoc) (by rw [← hb]; exact e2.1) (by rw [← hb]; exact e2.2)
       exact ⟨oc, by rw [hbc]; exact hoc, Nat.le_of_lt this, fun _ => this⟩
     · rw [if_neg hbc] at hb
       by_cases hba : b = a
       · rw [if_pos hba] at hb
         injection hb with hb
         have := key o (hle a o ha) (by rw [← hb]; rfl) (by rw [← hb]; rfl)
         exact ⟨o, by rw [hba]; exact ha, Nat.le_of_lt this, fun _ => this⟩
       · rw [if_neg hba] at hb
         have := key ob (hle b ob hb) rfl rfl
         exact ⟨ob, hb, Nat.le_of_lt this, fun _ => this⟩
   · unfold PwS.fin
     obtain ⟨oc', hoc'⟩ : ∃ oc' : OpS, { ({ (if c = a then o.pos c oc.stage (j + 1) else oc) with stage := oc.stage + 1 } : OpS) with done := true, changed := true } = oc' := ⟨_, rfl⟩
     have e2 : oc'.ended = oc.ended ∧ oc'.done = true := by
      rw [← hoc']
      by_cases hca : c = a
      · rw [if_pos hca]
        rw [hca, ha] at hoc
        injection hoc with hoc
        rw [← hoc]; exact ⟨rfl, rfl⟩
      · rw [if_neg hca]; exact ⟨rfl, rfl⟩
     rw [hoc']
     intro b ob hb
     rw [hcO, curO_none rfl]
     have hb : (if b = c then some oc' else if b = a then some (o.pos c oc.stage (j + 1)) else σ.ops b) = some ob := hb
     by_cases hbc : b = c
     · rw [if_pos hbc] at hb
       injection hb with hb
       have := gOq_fin (b := b) (o' := ob) (o := oc) (c := c) (oc := oc) (by rw [← hb]; exact e2.1) (.inl (by rw [← hb]; exact e2.2)) (rem_pos (fun _ => by have := hle c oc hoc; omega))
       exact ⟨oc, by rw [hbc]; exact hoc, Nat.le_of_lt this, fun _ => this⟩
     · rw [if_neg hbc] at hb
       by_cases hba : b = a
       · rw [if_pos hba] at hb
         injection hb with hb
         have := gOq_fin (b := b) (o' := ob) (o := o) (c := c) (oc := oc) (by rw [← hb]; rfl) (.inr ⟨by rw [← hb]; rfl, fun he => hbc he.symm⟩) (rem_pos (fun _ => by have := hle a o ha; omega))
         exact ⟨o, by rw [hba]; exact ha, Nat.le_of_lt this, fun _ => this⟩
       · rw [if_neg hba] at hb
         have := gOq_fin (b := b) (o' := ob) (o := ob) (c := c) (oc := oc) rfl (.inr ⟨rfl, fun he => hbc he.symm⟩) (rem_pos (fun _ => by have := hle b ob hb; omega))
         exact ⟨ob, hb, Nat.le_of_lt this, fun _ => this⟩
 · obtain ⟨oc', hoc', e1⟩ : ∃ oc', (if c = a then some (o.pos c oc.stage (j + 1)) else σ.ops c) = some oc' ∧ oc'.stage = oc.stage := by
    by_cases hca : c = a
    · rw [if_pos hca]
      rw [hca, ha] at hoc
      injection hoc with hoc
      exact ⟨_, rfl, by rw [← hoc]; rfl⟩
    · rw [if_neg hca]; exact ⟨oc, hoc, rfl⟩
   refine DecQ.of_cur (c := c) (oc' := oc') hc hoc' fun b ob hb => ?_
   rw [hcO]
   have hb : (if b = a then some (o.pos c oc.stage (j + 1)) else σ.ops b) = some ob := hb
   have remS' : ∀ ob : OpS, ob.rem c oc' = 40 * (4 - oc.stage) + (38 - ob.jat c oc.stage) := fun ob => by unfold OpS.rem; rw [e1, if_neg hs]
   by_cases hba : b = a
   · rw [if_pos hba] at hb
     injection hb with hb
     have : gOq (some (c, oc')) b ob < gOq (some (c, oc)) b o := gOq_lt (by rw [← hb]; rfl) (by rw [← hb]; rfl) (by rw [remS, remS', ← hb, jat_pos, hoj]; omega)
     exact ⟨o, by rw [hba]; exact ha, Nat.le_of_lt this, fun _ => this⟩
   · rw [if_neg hba] at hb
     refine ⟨ob, hb, ?_, fun he => absurd he hba⟩
     simp only [gOq, remS, remS']
     exact Nat.le_refl _
theorem adv_decq (h : Inv sum at0 n cnt M N σ xs L) (hR : RegOk n cnt M at0) (hN : N < 1000000) (ha : σ.ops a = some o) (hc : σ.cur = some c) (hoc : σ.ops c = some oc) : DecQ a σ (σ.adv sum at0 a o c oc) := by
 by_cases hs : oc.stage = 0
 · have e : σ.adv sum at0 a o c oc = σ.load sum at0 c oc o.th := by unfold PwS.adv; rw [if_pos hs]
   rw [e]; exact load_decq h hc hoc hs o.th
 · exact adv1_decq h hR hN ha hc hoc hs
theorem claim_decq (h : Inv sum at0 n cnt M N σ xs L) (hc : σ.cur = none) (ha : σ.ops a = some o) (hd : o.done = false) (hn : al.Nodup) (hm : a ∈ al) (hl : al.length ≤ 4) : gSq { σ with cur := some a } al + 1 ≤ gSq σ al := by
 obtain ⟨f1, f2, f3⟩ := h.fresh a o ha (by rw [hc]; simp) hd
 have hcO : curO { σ with cur := some a } = some (a, o) := curO_of rfl ha
 have rem0 : ∀ ob : OpS, ob.rem a o = 166 := fun ob => by unfold OpS.rem; rw [if_pos f1, f2]
 have := sum_step (f := gAq { σ with cur := some a }) (g := gAq σ) (m := 166) (K := 534) al hn hm (fun b hb hba => ?_) ?_
 · have h3 : 166 * (al.length - 1) ≤ 498 := by omega
   unfold gSq; omega
 · unfold gAq
   show (match σ.ops b with | none => 0 | some o => _) ≤ _
   cases hob : σ.ops b with
   | none => simp
   | some ob =>
    simp only
    rw [hcO, curO_none hc]
    simp only [gOq, rem0, if_neg (show ¬ a = b from fun he => hba he.symm)]
    omega
 · unfold gAq
   show (match σ.ops a with | none => 0 | some o => _) + _ ≤ _
   rw [ha]
   simp only
   rw [hcO, curO_none hc]
   simp only [gOq, rem0, if_true, hd, Bool.false_eq_true, if_false]
   omega
theorem fend_decq (h : Inv sum at0 n cnt M N σ xs L) (ha : σ.ops a = some o) (hd : o.done = true) (he : o.ended = false) (e : Int) : DecQ a σ (σ.fend a o e) := by
 have ef : σ.fend a o e = { σ.setOp a { o with ended := true, err := e } with busy := σ.busy.set o.k false } := by
  unfold PwS.fend; rw [if_neg (by simp [hd])]
 rw [ef]
 have hca : ∀ c, σ.cur = some c → c ≠ a := fun c hc hca => by
  obtain ⟨oc, g1, g2, _⟩ := h.run c hc
  rw [hca, ha] at g1; injection g1 with g1; rw [g1] at hd; rw [hd] at g2; cases g2
 have hcO : curO ({ σ.setOp a { o with ended := true, err := e } with busy := σ.busy.set o.k false } : PwS) = curO σ := by
  unfold curO
  show σ.cur.bind _ = _
  cases hc : σ.cur with
  | none => rfl
  | some c =>
   show ((if c = a then _ else σ.ops c) : Option OpS).map _ = (σ.ops c).map _
   rw [if_neg (hca c hc)]
 intro b ob hb
 rw [hcO]
 have hb : (if b = a then some { o with ended := true, err := e } else σ.ops b) = some ob := hb
 by_cases hba : b = a
 · rw [if_pos hba] at hb
   injection hb with hb
   have : gOq (curO σ) b ob < gOq (curO σ) b o := by
    rw [← hb]
    cases curO σ with
    | none => simp [gOq, he]
    | some p =>
     obtain ⟨c, oc⟩ := p
     have hr : ({ o with ended := true, err := e } : OpS).rem c oc = o.rem c oc := rfl
     simp [gOq, hr, he]
   exact ⟨o, by rw [hba]; exact ha, Nat.le_of_lt this, fun _ => this⟩
 · rw [if_neg hba] at hb
   exact ⟨ob, hb, Nat.le_refl _, fun he' => absurd he' hba⟩
/-- A step of an operation that has not ended lowers the sum. -/
theorem Inv.step_decq (h : Inv sum at0 n cnt M N σ xs L) (hR : RegOk n cnt M at0) (hN : N < 1000000) (ha : σ.ops a = some o) (he : o.ended = false) (hn : al.Nodup) (hm : a ∈ al) (hl : al.length ≤ 4) : gSq (σ.step sum at0 a).1 al + 1 ≤ gSq σ al := by
 have herr : ∀ i, (σ.dev.thr i).err = 0 := h.on.err
 cases hd : o.done with
 | true =>
  have hst : σ.step sum at0 a = (σ.fend a o 0, true) := by
   unfold PwS.step; rw [ha]; simp [he, hd, herr]
  rw [hst]
  refine (fend_decq h ha hd he 0).tot hn hm (o := { o with ended := true, err := 0 }) ?_
  unfold PwS.fend
  rw [if_neg (by simp [hd])]
  exact if_pos rfl
 | false =>
  obtain ⟨σ0, c, hσ0, hc0, hI0, hops, hg⟩ : ∃ σ0 c, σ0 = (if σ.cur.isSome then σ else { σ with cur := some a }) ∧ σ0.cur = some c ∧ Inv sum at0 n cnt M N σ0 xs L ∧ σ0.ops = σ.ops ∧ gSq σ0 al ≤ gSq σ al := by
   cases hcur : σ.cur with
   | none => exact ⟨{ σ with cur := some a }, a, rfl, rfl, h.claim hcur ha hd, rfl, by have := claim_decq h hcur ha hd hn hm hl; omega⟩
   | some c => exact ⟨σ, c, rfl, hcur, h, rfl, Nat.le_refl _⟩
  obtain ⟨oc, g1, g2, g3, g4⟩ := hI0.run c hc0
  have ha0 : σ0.ops a = some o := by rw [hops]; exact ha
  obtain ⟨ys, L1, hI1, hE1⟩ := hI0.adv hR hN ha0 hc0 g1
  have hdec := adv_decq hI0 hR hN ha0 hc0 g1
  obtain ⟨o1, k1, k2, k3, k4⟩ := hE1.sm ha0
  have hF1 := (adv_fl (sum := sum) (at0 := at0) ha0 g1).2 a
  have hs1 := hdec.tot hn hm k1
  obtain ⟨τ, hτ⟩ : ∃ τ, σ0.adv sum at0 a o c oc = τ := ⟨_, rfl⟩
  rw [hτ] at hI1 k1 hs1 hF1
  have he1 : o1.ended = false := by
   rw [k1, ha0, Option.map_some, Option.map_some] at hF1
   injection hF1 with hF1
   exact (congrArg (fun x => x.1) hF1).trans he
  have hst : σ.step sum at0 a = if o1.done then (τ.fend a o1 0, true) else (τ, false) := by
   unfold PwS.step
   rw [ha]
   simp only [he, Bool.false_eq_true, if_false, hd, herr, ne_eq, not_true_eq_false]
   rw [← hσ0, hc0, Option.getD_some, g1]
   simp only [hτ, k1]
   rw [if_neg (by rw [hI1.on.err]; simp)]
  rw [hst]
  cases hd1 : o1.done with
  | false => simp only [Bool.false_eq_true, if_false]; omega
  | true =>
   simp only [if_true]
   have h2 := (fend_decq hI1 k1 hd1 he1 0).tot hn hm (o := { o1 with ended := true, err := 0 }) (by
    unfold PwS.fend
    rw [if_neg (by simp [hd1])]
    exact if_pos rfl)
   omega
theorem gSq_le (h : Inv sum at0 n cnt M N σ xs L) (hl : al.length ≤ 4) : gSq σ al ≤ 868 * al.length := by
 have h0 : ∀ b ∈ al, gAq σ b ≤ (fun _ => 0) b + 868 := fun b _ => by
  unfold gAq
  cases hob : σ.ops b with
  | none => simp
  | some ob =>
   simp only
   cases curO σ with
   | none => simp only [gOq]; split <;> split <;> omega
   | some p =>
    obtain ⟨c, oc⟩ := p
    have hr : ob.rem c oc ≤ 166 := by
     unfold OpS.rem
     split
     · omega
     · omega
    simp only [gOq]
    split <;> split <;> (try split) <;> omega
 have := sum_le_add (f := gAq σ) (g := fun _ => 0) (m := 868) al h0
 rw [sum_zero] at this
 unfold gSq
 omega
end
def sumF (f : Nat → QM → Nat) : List QM → Nat → Nat
 | [], _ => 0
 | m :: ms, k => f k m + sumF f ms (k + 1)
theorem sumF_le {f g : Nat → QM → Nat} : ∀ (ms : List QM) (k : Nat), (∀ i m, ms[i]? = some m → f (k + i) m ≤ g (k + i) m) → sumF f ms k ≤ sumF g ms k
 | [], _, _ => Nat.le_refl _
 | m :: ms, k, h => by
  have h1 := h 0 m rfl
  have h2 := sumF_le (f := f) (g := g) ms (k + 1) (fun i mi hi => by have := h (i + 1) mi hi; rwa [show k + (i + 1) = k + 1 + i by omega] at this)
  simp only [sumF]
  rw [Nat.add_zero] at h1
  omega
theorem sumF_add (f g : Nat → QM → Nat) : ∀ (ms : List QM) (k : Nat), sumF (fun i m => f i m + g i m) ms k = sumF f ms k + sumF g ms k
 | [], _ => rfl
 | m :: ms, k => by
  simp only [sumF]
  rw [sumF_add f g ms (k + 1)]; omega
theorem sumF_set {f : Nat → QM → Nat} {m' : QM} : ∀ {ms : List QM} {i : Nat} {m : QM} (k : Nat), ms[i]? = some m → sumF f (ms.set i m') k + f (k + i) m = sumF f ms k + f (k + i) m'
 | [], i, m, k, h => by simp at h
 | x :: ms, 0, m, k, h => by
  simp at h
  subst h
  simp only [List.set_cons_zero, sumF, Nat.add_zero]
  omega
 | x :: ms, i + 1, m, k, h => by
  have h1 : ms[i]? = some m := by simpa using h
  have := sumF_set (f := f) (m' := m') (k := k + 1) h1
  simp only [List.set_cons_succ, sumF]
  rw [show k + (i + 1) = k + 1 + i by omega]
  omega
theorem sumF_app (f : Nat → QM → Nat) : ∀ (ms : List QM) (m : QM) (k : Nat), sumF f (ms ++ [m]) k = sumF f ms k + f (k + ms.length) m
 | [], m, k => by simp [sumF]
 | x :: ms, m, k => by
  simp only [List.cons_append, sumF, List.length_cons]
  rw [sumF_app f ms m (k + 1), show k + (ms.length + 1) = k + 1 + ms.length by omega]; omega
def isChg (m : QM) : Option Nat := match m.ph with
 | .chg _ _ _ a => some a
 | _ => none
def chgBl (ms : List QM) : List Nat := ms.filterMap isChg
def gM (σ : PwS) (m : QM) : Nat := match isChg m with
 | some a => gAq σ a
 | none => 0
theorem sum_gM (σ : PwS) : ∀ (ms : List QM) (k : Nat), sumF (fun _ m => gM σ m) ms k = gSq σ (chgBl ms)
 | [], _ => rfl
 | m :: ms, k => by
  simp only [sumF]
  rw [sum_gM σ ms (k + 1)]
  unfold chgBl
  rw [List.filterMap_cons]
  unfold gM
  cases h : isChg m with
  | none => simp
  | some a => simp [gSq]
/-- The threads of calls that are not over: each has one, and they are among four. -/
structure QTh (ms : List QM) : Prop where
 in_ : ∀ (i : Nat) (m : QM), ms[i]? = some m → m.ph.over = false → m.th = 0 ∨ m.th = 1 ∨ m.th = 2 ∨ m.th = 5
 one : ∀ (i j : Nat) (mi mj : QM), ms[i]? = some mi → ms[j]? = some mj → mi.ph.over = false → mj.ph.over = false → mi.th = mj.th → i = j
theorem four_of {l : List Nat} (hn : l.Nodup) (h : ∀ x ∈ l, x = 0 ∨ x = 1 ∨ x = 2 ∨ x = 5) : l.length ≤ 4 := by
 have := List.Nodup.length_le_of_subset hn (l₂ := [0, 1, 2, 5]) (fun x hx => by simpa using h x hx)
 simpa using this
theorem three_of {l : List Nat} {t : Nat} (hn : l.Nodup) (h : ∀ x ∈ l, x = 0 ∨ x = 1 ∨ x = 2 ∨ x = 5) (ht : t = 0 ∨ t = 1 ∨ t = 2 ∨ t = 5) (hnt : t ∉ l) : l.length ≤ 3 := by
 have := four_of (l := t :: l) (List.nodup_cons.2 ⟨hnt, hn⟩) (fun x hx => by
  rcases List.mem_cons.1 hx with rfl | hx
  · exact ht
  · exact h x hx)
 simpa using this
/-- How many calls there are of a kind, of those that are not over. -/
def cntF (p : Nat → QM → Bool) (ms : List QM) (k : Nat) : Nat := sumF (fun i m => if p i m then 1 else 0) ms k
def thL (p : Nat → QM → Bool) : List QM → Nat → List Nat
 | [], _ => []
 | m :: ms, k => if p k m then m.th :: thL p ms (k + 1) else thL p ms (k + 1)
theorem length_thL (p : Nat → QM → Bool) : ∀ (ms : List QM) (k : Nat), (thL p ms k).length = cntF p ms k
 | [], _ => rfl
 | m :: ms, k => by
  have := length_thL p ms (k + 1)
  unfold cntF at this ⊢
  simp only [thL, sumF]
  split
  · rw [List.length_cons, this]; omega
  · rw [this]; omega
theorem mem_thL {p : Nat → QM → Bool} : ∀ {ms : List QM} {k x : Nat}, x ∈ thL p ms k → ∃ i m, ms[i]? = some m ∧ p (k + i) m = true ∧ m.th = x
 | [], k, x, h => by simp [thL] at h
 | m :: ms, k, x, h => by
  simp only [thL] at h
  split at h
  · rename_i hp
    rcases List.mem_cons.1 h with h | h
    · exact ⟨0, m, rfl, by simpa using hp, h.symm⟩
    · obtain ⟨i, mi, h1, h2, h3⟩ := mem_thL h
      exact ⟨i + 1, mi, h1, by rwa [show k + (i + 1) = k + 1 + i by omega], h3⟩
  · obtain ⟨i, mi, h1, h2, h3⟩ := mem_thL h
    exact ⟨i + 1, mi, h1, by rwa [show k + (i + 1) = k + 1 + i by omega], h3⟩
theorem nodup_thL {p : Nat → QM → Bool} : ∀ {ms : List QM} {k : Nat}, (∀ (i j : Nat) (mi mj : QM), ms[i]? = some mi → ms[j]? = some mj → p (k + i) mi = true → p (k + j) mj = true → mi.th = mj.th → i = j) → (thL p ms k).Nodup
 | [], k, h => by simp [thL]
 | m :: ms, k, h => by
  have h2 : (thL p ms (k + 1)).Nodup := nodup_thL (fun i j mi mj hi hj pi pj ht => by
   have := h (i + 1) (j + 1) mi mj hi hj (by rwa [show k + (i + 1) = k + 1 + i by omega]) (by rwa [show k + (j + 1) = k + 1 + j by omega]) ht
   omega)
  simp only [thL]
  split
  · rename_i hp
    rw [List.nodup_cons]
    refine ⟨fun hx => ?_, h2⟩
    obtain ⟨i, mi, h3, h4, h5⟩ := mem_thL hx
    have := h 0 (i + 1) m mi rfl h3 (by simpa using hp) (by rwa [show k + (i + 1) = k + 1 + i by omega]) h5.symm
    omega
  · exact h2
section
variable {ms : List QM} {p : Nat → QM → Bool} {j : Nat} {mj : QM}
theorem QTh.cnt4 (h : QTh ms) (hp : ∀ i m, ms[i]? = some m → p i m = true → m.ph.over = false) : cntF p ms 0 ≤ 4 := by
 rw [← length_thL]
 refine four_of (nodup_thL (fun i j mi mj hi hj pi pj ht => ?_)) (fun x hx => ?_)
 · rw [Nat.zero_add] at pi pj
   exact h.one i j mi mj hi hj (hp i mi hi pi) (hp j mj hj pj) ht
 · obtain ⟨i, m, h1, h2, h3⟩ := mem_thL hx
   rw [Nat.zero_add] at h2
   rw [← h3]
   exact h.in_ i m h1 (hp i m h1 h2)
theorem QTh.cnt3 (h : QTh ms) (hp : ∀ i m, ms[i]? = some m → p i m = true → m.ph.over = false) (hj : ms[j]? = some mj) (hov : mj.ph.over = false) (hpj : ∀ m, p j m = false) : cntF p ms 0 ≤ 3 := by
 rw [← length_thL]
 refine three_of (t := mj.th) (nodup_thL (fun i j mi mj hi hj pi pj ht => ?_)) (fun x hx => ?_) (h.in_ j mj hj hov) (fun hx => ?_)
 · rw [Nat.zero_add] at pi pj
   exact h.one i j mi mj hi hj (hp i mi hi pi) (hp j mj hj pj) ht
 · obtain ⟨i, m, h1, h2, h3⟩ := mem_thL hx
   rw [Nat.zero_add] at h2
   rw [← h3]
   exact h.in_ i m h1 (hp i m h1 h2)
 · obtain ⟨i, m, h1, h2, h3⟩ := mem_thL hx
   rw [Nat.zero_add] at h2
   have := h.one i j m mj h1 hj (hp i m h1 h2) hov h3
   subst this
   rw [hpj] at h2; cases h2
end
def wM (m : QM) : Nat := match m.ph with
 | .start => 911
 | .rd s _ _ r => 900 + 4 * (3 - s) + (3 - r.place)
 | _ => 0
/-- Has what a call has read been changed since? -/
def stM (W P : Nat) (L : Nat → Int) (σ : PwS) (m : QM) : Nat := match m.ph with
 | .rd s f c r => if (s ≠ 1 → L (qfW W) % 1099511627776 = (f : Int)) ∧ (s = 3 → L (qcW W) % 1099511627776 = (c : Int)) ∧ (r.place ≠ 0 → r.raw % 1099511627776 = L (qWd W P s f) % 1099511627776) then 0 else 1
 | .chg f c v a => match (σ.ops a).bind OpS.res with
  | none => if satL L (qEnts W P m.ins f c v) = true then 0 else 1
  | some true => 0
  | some false => 1
 | _ => 0
def lvM (P : Nat) (σ : PwS) (m : QM) : Nat := if m.out P σ = none then 1 else 0
def tM (st lv : Nat → Bool) (W P : Nat) (σ : PwS) (L : Nat → Int) (i : Nat) (m : QM) : Nat :=
 gM σ m + ((if st i then wM m + 912 * stM W P L σ m else 0) + (if lv i then 3648 * lvM P σ m else 0))
def phi (st lv : Nat → Bool) (W P : Nat) (σ : PwS) (L : Nat → Int) (ms : List QM) : Nat := sumF (tM st lv W P σ L) ms 0
/-- What holds between the steps beside the order. -/
structure QSb (σ : PwS) (ms : List QM) : Prop where
 th : QTh ms
 rd : ∀ (i : Nat) (m : QM) (s f c : Nat) (r : RdS), ms[i]? = some m → m.ph = .rd s f c r → r.ended = false ∧ r.th = m.th
 ch : ∀ (i : Nat) (m : QM) (f c : Nat) (v : Int) (a : Nat), ms[i]? = some m → m.ph = .chg f c v a → ∃ o, σ.ops a = some o ∧ o.ended = false ∧ o.k < 8 ∧ o.th = m.th
 len : σ.busy.length = 8
 bt : ∀ k, k < 8 → (σ.busy.getD k false = true ↔ ∃ (i : Nat) (m : QM) (a : Nat) (o : OpS), ms[i]? = some m ∧ isChg m = some a ∧ σ.ops a = some o ∧ o.k = k)
 un : ∀ (i j : Nat) (mi mj : QM) (a a' : Nat) (o o' : OpS), ms[i]? = some mi → ms[j]? = some mj → isChg mi = some a → isChg mj = some a' → σ.ops a = some o → σ.ops a' = some o' → o.k = o'.k → i = j
section
variable {W P n N T : Nat} {q0 : List Int} {σ σ' : PwS} {ms : List QM} {L L' : Nat → Int} {ord : List Nat} {i a s f c : Nat} {m m' m2 : QM} {sum : List Int → Int} {at0 : Nat → Int} {cnt : Nat} {xs xs' : List Int} {r : RdS} {o : OpS} {b : Bool} {v : Int} {bl : Nat × List Nat} {st lv : Nat → Bool}
theorem isChg_of (h : m.ph = .chg f c v a) : isChg m = some a := by unfold isChg; rw [h]
theorem isChg_inv (h : isChg m = some a) : ∃ f c v, m.ph = .chg f c v a := by
 unfold isChg at h
 cases hp : m.ph with
 | chg f c v a' => rw [hp] at h; injection h with h; exact ⟨f, c, v, by rw [h]⟩
 | start => rw [hp] at h; cases h
 | rd s f c r => rw [hp] at h; cases h
 | fin v e => rw [hp] at h; cases h
theorem isChg_over (h : isChg m = some a) : m.ph.over = false := by
 obtain ⟨f, c, v, hp⟩ := isChg_inv h
 rw [hp]; rfl
theorem firstFree_spec : ∀ (bs : List Bool), (∃ k, k < bs.length ∧ bs.getD k false = false) → firstFree bs < bs.length ∧ bs.getD (firstFree bs) false = false
 | [], ⟨k, h, _⟩ => by simp at h
 | true :: bs, ⟨k, h, h2⟩ => by
  have : ∃ k, k < bs.length ∧ bs.getD k false = false := by
   cases k with
   | zero => simp at h2
   | succ k => exact ⟨k, by simpa using h, by simpa using h2⟩
  obtain ⟨h3, h4⟩ := firstFree_spec bs this
  simp only [firstFree, if_true]
  exact ⟨by simpa using h3, by simpa using h4⟩
 | false :: bs, _ => by simp [firstFree]
theorem QSb.free (h : QSb σ ms) : firstFree σ.busy < 8 ∧ σ.busy.getD (firstFree σ.busy) false = false := by
 have hex : ∃ k, k < σ.busy.length ∧ σ.busy.getD k false = false := by
  apply Classical.byContradiction
  intro hno
  have hall : ∀ k, k < 8 → ∃ (i : Nat) (m : QM) (a : Nat) (o : OpS), ms[i]? = some m ∧ isChg m = some a ∧ σ.ops a = some o ∧ o.k = k := fun k hk => (h.bt k hk).1 (by
   cases hb : σ.busy.getD k false with
   | true => rfl
   | false => exact absurd ⟨k, by rw [h.len]; exact hk, hb⟩ hno)
  have hch : ∀ k, ∃ t : Nat, k < 8 → ∃ (i : Nat) (m : QM) (a : Nat) (o : OpS), ms[i]? = some m ∧ isChg m = some a ∧ σ.ops a = some o ∧ o.k = k ∧ m.th = t := fun k => by
   by_cases hk : k < 8
   · obtain ⟨i, m, a, o, h1, h2, h3, h4⟩ := hall k hk
     exact ⟨m.th, fun _ => ⟨i, m, a, o, h1, h2, h3, h4, rfl⟩⟩
   · exact ⟨0, fun hx => absurd hx hk⟩
  obtain ⟨g, hg⟩ := Classical.axiomOfChoice hch
  have hnd : ((List.range 8).map g).Nodup := by
   refine List.Pairwise.map _ ?_ (List.nodup_range (n := 8) |>.imp_of_mem ?_) (R := fun x y => g x ≠ g y)
   · exact fun x y hxy => hxy
   · intro x y hx hy hne he
     obtain ⟨i1, m1, a1, o1, e1, e2, e3, e4, e5⟩ := hg x (by simpa using hx)
     obtain ⟨i2, m2, a2, o2, d1, d2, d3, d4, d5⟩ := hg y (by simpa using hy)
     have hi : i1 = i2 := h.th.one i1 i2 m1 m2 e1 d1 (isChg_over e2) (isChg_over d2) (by rw [e5, d5, he])
     subst hi
     rw [e1] at d1
     injection d1 with d1
     subst d1
     rw [e2] at d2
     injection d2 with d2
     subst d2
     rw [e3] at d3
     injection d3 with d3
     subst d3
     exact hne (e4.symm.trans d4)
  have := four_of hnd (fun x hx => by
   obtain ⟨k, hk, rfl⟩ := List.mem_map.1 hx
   obtain ⟨i1, m1, a1, o1, e1, e2, e3, e4, e5⟩ := hg k (by simpa using hk)
   rw [← e5]
   exact h.th.in_ i1 m1 e1 (isChg_over e2))
  simp at this
 have := firstFree_spec σ.busy hex
 rw [h.len] at this
 exact this
/-- The device alone has changed. -/
theorem gAq_same (h1 : σ'.ops = σ.ops) (h2 : σ'.cur = σ.cur) (b : Nat) : gAq σ' b = gAq σ b := by
 unfold gAq curO
 rw [h1, h2]
theorem tM_same (h1 : σ'.ops = σ.ops) (h2 : σ'.cur = σ.cur) (i : Nat) (m : QM) : tM st lv W P σ' L i m = tM st lv W P σ L i m := by
 have e1 : gM σ' m = gM σ m := by unfold gM; cases isChg m with | none => rfl | some a => exact gAq_same h1 h2 a
 have e2 : stM W P L σ' m = stM W P L σ m := by unfold stM; rw [h1]
 have e3 : lvM P σ' m = lvM P σ m := by
  have : m.out P σ' = m.out P σ := by unfold QM.out chgOut; rw [h1]
  unfold lvM; rw [this]
 unfold tM; rw [e1, e2, e3]
theorem phi_one (hi : ms[i]? = some m) {k : Nat} (hall : ∀ j mj, j ≠ i → ms[j]? = some mj → tM st lv W P σ' L' j mj ≤ tM st lv W P σ L j mj) (hone : tM st lv W P σ' L' i m' + k ≤ tM st lv W P σ L i m) :
 phi st lv W P σ' L' (ms.set i m') + k ≤ phi st lv W P σ L ms := by
 have hil := (List.getElem?_eq_some_iff.1 hi).1
 have h1 := sumF_set (f := tM st lv W P σ' L') (m' := m') (k := 0) hi
 have h2 := sumF_le (f := fun j mj => if j = i then tM st lv W P σ' L' i m' + k else tM st lv W P σ' L' j mj) (g := tM st lv W P σ L) ms 0 (fun j mj hj => by
  simp only [Nat.zero_add]
  split
  · rename_i hji
    subst hji
    rw [hi] at hj
    injection hj with hj
    rw [← hj]; exact hone
  · rename_i hji; exact hall j mj hji hj)
 have h3 : sumF (fun j mj => if j = i then tM st lv W P σ' L' i m' + k else tM st lv W P σ' L' j mj) ms 0 = sumF (fun j mj => if j = i then tM st lv W P σ' L' i m' + k else tM st lv W P σ' L' j mj) (ms.set i m) 0 := by rw [set_self hi]
 have h4 := sumF_set (f := fun j mj => if j = i then tM st lv W P σ' L' i m' + k else tM st lv W P σ' L' j mj) (m' := m') (k := 0) hi
 simp only [Nat.zero_add, if_true] at h1 h4
 have h5 : sumF (fun j mj => if j = i then tM st lv W P σ' L' i m' + k else tM st lv W P σ' L' j mj) (ms.set i m') 0 = sumF (tM st lv W P σ' L') (ms.set i m') 0 + k := by
  have e : ∀ (l : List QM) (q : Nat) (x : QM), l[i - q]? = some x → q ≤ i → x = m' → sumF (fun j mj => if j = i then tM st lv W P σ' L' i m' + k else tM st lv W P σ' L' j mj) l q = sumF (tM st lv W P σ' L') l q + k := by
   intro l
   induction l with
   | nil => intro q x hx; simp at hx
   | cons y l ih =>
    intro q x hx hq hxm
    simp only [sumF]
    by_cases hqi : q = i
    · subst hqi
      have hy : y = m' := by simp at hx; rw [hx, hxm]
      rw [if_pos rfl, hy]
      have : ∀ (l : List QM) (q' : Nat), q < q' → sumF (fun j mj => if j = q then tM st lv W P σ' L' q m' + k else tM st lv W P σ' L' j mj) l q' = sumF (tM st lv W P σ' L') l q' := by
       intro l
       induction l with
       | nil => intro _ _; rfl
       | cons z l ih2 =>
        intro q' hq'
        simp only [sumF]
        rw [if_neg (by omega), ih2 (q' + 1) (by omega)]
      rw [this l (q + 1) (by omega)]; omega
    · rw [if_neg hqi, ih (q + 1) x (by
       rw [show i - q = (i - (q + 1)) + 1 by omega] at hx
       simpa using hx) (by omega) hxm]
      omega
  exact e (ms.set i m') 0 m' (by rw [Nat.sub_zero]; exact List.getElem?_set_self hil) (Nat.zero_le _) rfl
 unfold phi
 omega
end
section
variable {W P n N T : Nat} {q0 : List Int} {σ σ' : PwS} {ms : List QM} {L L' : Nat → Int} {ord : List Nat} {i a s f c : Nat} {m m' m2 : QM} {sum : List Int → Int} {at0 : Nat → Int} {cnt : Nat} {xs xs' : List Int} {r : RdS} {o : OpS} {b : Bool} {v : Int} {bl : Nat × List Nat} {st lv : Nat → Bool} {M : Nat → Prop}
theorem QTh.set (h : QTh ms) (hi : ms[i]? = some m) (hth : m'.th = m.th) (hov : m.ph.over = false) : QTh (ms.set i m') := by
 refine ⟨fun j mj hj ho => ?_, fun j k mj mk hj hk oj ok ht => ?_⟩
 · rcases qget_cases hi hj with ⟨rfl, rfl⟩ | ⟨_, hj'⟩
   · rw [hth]; exact h.in_ j m hi hov
   · exact h.in_ j mj hj' ho
 · rcases qget_cases hi hj with ⟨e1, e2⟩ | ⟨_, hj'⟩
   · rcases qget_cases hi hk with ⟨e3, _⟩ | ⟨_, hk'⟩
     · rw [e1, e3]
     · rw [e1]
       rw [e2, hth] at ht
       exact h.one i k m mk hi hk' hov ok ht
   · rcases qget_cases hi hk with ⟨e1, e2⟩ | ⟨_, hk'⟩
     · rw [e1]
       rw [e2, hth] at ht
       exact h.one j i mj m hj' hi oj hov ht
     · exact h.one j k mj mk hj' hk' oj ok ht
/-- A call that has no operation goes on without one. -/
theorem QSb.keep (h : QSb σ ms) (hi : ms[i]? = some m) (hth : m'.th = m.th) (hov : m.ph.over = false) (hc : isChg m = none) (hc' : isChg m' = none) (hrd : ∀ s f c r, m'.ph = .rd s f c r → r.ended = false ∧ r.th = m'.th) (ho : σ'.ops = σ.ops) (hb : σ'.busy = σ.busy) : QSb σ' (ms.set i m') := by
 have key : ∀ (j : Nat) (mj : QM) (a : Nat), (ms.set i m')[j]? = some mj → isChg mj = some a → ms[j]? = some mj := fun j mj a hj ha => by
  rcases qget_cases hi hj with ⟨_, e⟩ | ⟨_, hj'⟩
  · rw [e, hc'] at ha; cases ha
  · exact hj'
 refine ⟨h.th.set hi hth hov, fun j mj s f c r hj hp => ?_, fun j mj f c v a hj hp => ?_, by rw [hb]; exact h.len, fun k hk => ?_, fun j k mj mk a a' o o' hj hk ha ha' ho1 ho2 hko => ?_⟩
 · rcases qget_cases hi hj with ⟨rfl, rfl⟩ | ⟨_, hj'⟩
   · exact hrd s f c r hp
   · exact h.rd j mj s f c r hj' hp
 · rw [ho]; exact h.ch j mj f c v a (key j mj a hj (isChg_of hp)) hp
 · rw [hb, ho, h.bt k hk]
   constructor
   · rintro ⟨j, mj, a, o, e1, e2, e3, e4⟩
     refine ⟨j, mj, a, o, ?_, e2, e3, e4⟩
     have hne : i ≠ j := fun he => by
      subst he
      rw [hi] at e1
      injection e1 with e1
      subst e1
      rw [hc] at e2; cases e2
     rw [List.getElem?_set_ne hne]; exact e1
   · rintro ⟨j, mj, a, o, e1, e2, e3, e4⟩
     exact ⟨j, mj, a, o, key j mj a e1 e2, e2, e3, e4⟩
 · rw [ho] at ho1 ho2
   exact h.un j k mj mk a a' o o' (key _ _ _ hj ha) (key _ _ _ hk ha') ha ha' ho1 ho2 hko
/-- A call begins an operation. -/
theorem QSb.beg (h : QSb σ ms) (hi : ms[i]? = some m) (hth : m'.th = m.th) (hov : m.ph.over = false) (hc : isChg m = none) (hp : m'.ph = .chg f c v bl.1) (ha : σ.ops bl.1 = none) (ins : Bool) (f0 c0 : Nat) (v0 : Int)
 (hch : ∀ (j : Nat) (mj : QM) (a : Nat), ms[j]? = some mj → isChg mj = some a → ∃ o, σ.ops a = some o) :
 QSb (qBeg W P σ m.th ins f0 c0 v0 bl).1 (ms.set i m') := by
 obtain ⟨hf1, hf2⟩ := h.free
 have hil := (List.getElem?_eq_some_iff.1 hi).1
 obtain ⟨no, hno⟩ : ∃ no, newOpQ (firstFree σ.busy) m.th (qEnts W P ins f0 c0 v0) bl.2 = no := ⟨_, rfl⟩
 have hnk : no.k = firstFree σ.busy := by rw [← hno]; rfl
 have hnew : (qBeg W P σ m.th ins f0 c0 v0 bl).1.ops bl.1 = some no := by rw [← hno]; exact if_pos rfl
 have hold : ∀ x, x ≠ bl.1 → (qBeg W P σ m.th ins f0 c0 v0 bl).1.ops x = σ.ops x := fun x hx => if_neg hx
 have hbz : (qBeg W P σ m.th ins f0 c0 v0 bl).1.busy = σ.busy.set (firstFree σ.busy) true := rfl
 have hne : ∀ (j : Nat) (mj : QM) (a : Nat), ms[j]? = some mj → isChg mj = some a → a ≠ bl.1 := fun j mj a hj haj he => by
  obtain ⟨o, ho⟩ := hch j mj a hj haj
  rw [he, ha] at ho; cases ho
 have hcm : isChg m' = some bl.1 := isChg_of hp
 have hget : ∀ k : Nat, (σ.busy.set (firstFree σ.busy) true).getD k false = if k = firstFree σ.busy then true else σ.busy.getD k false := fun k => by
  rw [List.getD_eq_getElem?_getD, List.getElem?_set]
  split
  · rename_i he
    subst he
    rw [if_pos (by rw [h.len]; exact hf1), if_pos rfl]; rfl
  · rename_i he
    rw [if_neg (fun hx => he hx.symm), List.getD_eq_getElem?_getD]
 refine ⟨h.th.set hi hth hov, fun j mj s f c r hj hpj => ?_, fun j mj f c v a hj hpj => ?_, by rw [hbz, List.length_set]; exact h.len, fun k hk => ?_, fun j k mj mk a a' o o' hj hk haj hak ho1 ho2 hko => ?_⟩
 · rcases qget_cases hi hj with ⟨rfl, rfl⟩ | ⟨_, hj'⟩
   · rw [hp] at hpj; cases hpj
   · exact h.rd j mj s f c r hj' hpj
 · rcases qget_cases hi hj with ⟨rfl, rfl⟩ | ⟨_, hj'⟩
   · rw [hp] at hpj
     injection hpj with _ _ _ hpj
     rw [← hpj]
     refine ⟨no, hnew, by rw [← hno]; rfl, by rw [hnk]; exact hf1, by rw [hth, ← hno]; rfl⟩
   · rw [hold a (hne j mj a hj' (isChg_of hpj))]
     exact h.ch j mj f c v a hj' hpj
 · rw [hbz, hget]
   by_cases hkf : k = firstFree σ.busy
   · rw [if_pos hkf]
     refine ⟨fun _ => ⟨i, m', bl.1, no, List.getElem?_set_self hil, hcm, hnew, by rw [hnk, hkf]⟩, fun _ => rfl⟩
   · rw [if_neg hkf, h.bt k hk]
     constructor
     · rintro ⟨j, mj, a, o, e1, e2, e3, e4⟩
       have hij : i ≠ j := fun he => by
        subst he
        rw [hi] at e1
        injection e1 with e1
        subst e1
        rw [hc] at e2; cases e2
       exact ⟨j, mj, a, o, by rw [List.getElem?_set_ne hij]; exact e1, e2, by rw [hold a (hne j mj a e1 e2)]; exact e3, e4⟩
     · rintro ⟨j, mj, a, o, e1, e2, e3, e4⟩
       rcases qget_cases hi e1 with ⟨rfl, rfl⟩ | ⟨_, hj'⟩
       · rw [hcm] at e2
         injection e2 with e2
         rw [← e2, hnew] at e3
         injection e3 with e3
         rw [← e3, hnk] at e4
         exact absurd e4.symm hkf
       · exact ⟨j, mj, a, o, hj', e2, by rw [hold a (hne j mj a hj' e2)] at e3; exact e3, e4⟩
 · have fk : ∀ (j : Nat) (mj : QM) (a : Nat) (o : OpS), ms[j]? = some mj → isChg mj = some a → (qBeg W P σ m.th ins f0 c0 v0 bl).1.ops a = some o → σ.ops a = some o ∧ o.k ≠ firstFree σ.busy := by
    intro j mj a o hj haj hoj
    rw [hold a (hne j mj a hj haj)] at hoj
    refine ⟨hoj, fun hx => ?_⟩
    have := (h.bt (firstFree σ.busy) hf1).2 ⟨j, mj, a, o, hj, haj, hoj, hx⟩
    rw [hf2] at this; cases this
   rcases qget_cases hi hj with ⟨e1, e2⟩ | ⟨_, hj'⟩
   · rcases qget_cases hi hk with ⟨e3, _⟩ | ⟨_, hk'⟩
     · rw [e1, e3]
     · rw [e2, hcm] at haj
       injection haj with haj
       rw [← haj, hnew] at ho1
       injection ho1 with ho1
       rw [← ho1, hnk] at hko
       exact absurd hko.symm (fk k mk a' o' hk' hak ho2).2
   · rcases qget_cases hi hk with ⟨e1, e2⟩ | ⟨_, hk'⟩
     · rw [e2, hcm] at hak
       injection hak with hak
       rw [← hak, hnew] at ho2
       injection ho2 with ho2
       rw [← ho2, hnk] at hko
       exact absurd hko (fk j mj a o hj' haj ho1).2
     · exact h.un j k mj mk a a' o o' hj' hk' haj hak (fk j mj a o hj' haj ho1).1 (fk k mk a' o' hk' hak ho2).1 hko
/-- A call's operation is stepped; it may end. -/
theorem QSb.oper (h : QSb σ ms) (hinj : ∀ (i j : Nat) (mi mj : QM) (a : Nat), ms[i]? = some mi → ms[j]? = some mj → isChg mi = some a → isChg mj = some a → i = j) {N' : Nat} (S : StepOk sum at0 n cnt M N' a o σ L σ' b xs' L') (hi : ms[i]? = some m) (hp : m.ph = .chg f c v a) (ha : σ.ops a = some o) (hoe : o.ended = false)
 (hth : m'.th = m.th) (hc' : isChg m' = if b then none else some a) (hpc : ∀ f' c' v' a', m'.ph = .chg f' c' v' a' → b = false) (hrd : ∀ s f c r, m'.ph = .rd s f c r → r.ended = false ∧ r.th = m'.th) : QSb σ' (ms.set i m') := by
 have hil := (List.getElem?_eq_some_iff.1 hi).1
 have hcm := isChg_of hp
 have hov : m.ph.over = false := isChg_over hcm
 obtain ⟨o', t1, t2, t3, t4, t5, t6, t7, t8⟩ := S.self
 have hbz : σ'.busy = if b then σ.busy.set o.k false else σ.busy := by rw [S.busy, hoe]; simp
 have hfl : ∀ x ox, x ≠ a → σ.ops x = some ox → ∃ ox', σ'.ops x = some ox' ∧ ox'.ended = ox.ended ∧ ox'.k = ox.k ∧ ox'.th = ox.th := by
  intro x ox hx hox
  have h1 := S.other x hx
  obtain ⟨ox', e1, e2, e3, e4⟩ := S.eff.sm hox
  rw [e1, hox, Option.map_some, Option.map_some] at h1
  injection h1 with h1
  exact ⟨ox', e1, congrArg (fun z => z.1) h1, e4, e3⟩
 have hfb : ∀ x ox', x ≠ a → σ'.ops x = some ox' → ∃ ox, σ.ops x = some ox ∧ ox'.k = ox.k := by
  intro x ox' hx hox'
  obtain ⟨ox, e1, _, e3⟩ := S.eff.back hox'
  exact ⟨ox, e1, e3⟩
 have hoth : ∀ (j : Nat) (mj : QM) (aj : Nat), j ≠ i → ms[j]? = some mj → isChg mj = some aj → aj ≠ a := fun j mj aj hne hj haj he => hne (by rw [he] at haj; exact hinj j i mj m a hj hi haj hcm)
 have hkm : ∃ f c v, m.ph = .chg f c v a := ⟨f, c, v, hp⟩
 obtain ⟨om, u1, u2, u3, u4⟩ := h.ch i m f c v a hi hp
 rw [ha] at u1
 injection u1 with u1
 subst u1
 refine ⟨h.th.set hi hth hov, fun j mj s f c r hj hpj => ?_, fun j mj f c v aj hj hpj => ?_, ?_, fun k hk => ?_, fun j k mj mk aj ak oj ok hj hk haj hak ho1 ho2 hko => ?_⟩
 · rcases qget_cases hi hj with ⟨rfl, rfl⟩ | ⟨_, hj'⟩
   · exact hrd s f c r hpj
   · exact h.rd j mj s f c r hj' hpj
 · rcases qget_cases hi hj with ⟨rfl, rfl⟩ | ⟨hne, hj'⟩
   · have hb := hpc f c v aj hpj
     rw [hb, isChg_of hpj] at hc'
     simp at hc'
     rw [hc']
     exact ⟨o', t1, by rw [t2, hb], by rw [t4]; exact u3, by rw [t3, hth]; exact u4⟩
   · obtain ⟨oj, e1, e2, e3, e4⟩ := h.ch j mj f c v aj hj' hpj
     obtain ⟨oj', d1, d2, d3, d4⟩ := hfl aj oj (hoth j mj aj hne hj' (isChg_of hpj)) e1
     exact ⟨oj', d1, by rw [d2, e2], by rw [d3]; exact e3, by rw [d4]; exact e4⟩
 · rw [hbz]
   split
   · rw [List.length_set]; exact h.len
   · exact h.len
 · have hget : σ'.busy.getD k false = if b ∧ k = o.k then false else σ.busy.getD k false := by
    rw [hbz]
    cases b with
    | false => simp
    | true =>
     simp only [if_true, true_and]
     rw [List.getD_eq_getElem?_getD, List.getElem?_set]
     split
     · rename_i he
       subst he
       rw [if_pos (by rw [h.len]; exact u3), if_pos rfl]; rfl
     · rename_i he
       rw [if_neg (fun hx => he hx.symm), List.getD_eq_getElem?_getD]
   rw [hget]
   by_cases hbk : b = true ∧ k = o.k
   · rw [if_pos hbk]
     refine ⟨fun hx => (by cases hx), ?_⟩
     rintro ⟨j, mj, aj, oj, e1, e2, e3, e4⟩
     rcases qget_cases hi e1 with ⟨rfl, rfl⟩ | ⟨hne, hj'⟩
     · rw [e2, hbk.1] at hc'; simp at hc'
     · obtain ⟨ox, d1, d2⟩ := hfb aj oj (hoth j mj aj hne hj' e2) e3
       exact absurd (h.un j i mj m aj a ox o hj' hi e2 hcm d1 ha (by rw [← d2, e4, hbk.2])) hne
   · rw [if_neg hbk, h.bt k hk]
     constructor
     · rintro ⟨j, mj, aj, oj, e1, e2, e3, e4⟩
       by_cases hji : j = i
       · subst hji
         rw [hi] at e1
         injection e1 with e1
         subst e1
         rw [hcm] at e2
         injection e2 with e2
         subst e2
         rw [ha] at e3
         injection e3 with e3
         subst e3
         have hb : b = false := by
          cases b with
          | false => rfl
          | true => exact absurd ⟨rfl, e4.symm⟩ hbk
         rw [hb] at hc'
         exact ⟨j, m', a, o', List.getElem?_set_self hil, by simpa using hc', t1, by rw [t4]; exact e4⟩
       · obtain ⟨oj', d1, _, d3, _⟩ := hfl aj oj (hoth j mj aj hji e1 e2) e3
         exact ⟨j, mj, aj, oj', by rw [List.getElem?_set_ne (Ne.symm hji)]; exact e1, e2, d1, by rw [d3]; exact e4⟩
     · rintro ⟨j, mj, aj, oj, e1, e2, e3, e4⟩
       rcases qget_cases hi e1 with ⟨rfl, rfl⟩ | ⟨hne, hj'⟩
       · rw [e2] at hc'
         have hb : b = false := by
          cases b with
          | false => rfl
          | true => simp at hc'
         rw [hb] at hc'
         simp at hc'
         subst hc'
         rw [t1] at e3
         injection e3 with e3
         exact ⟨j, m, aj, o, hi, hcm, ha, by rw [← t4, e3]; exact e4⟩
       · obtain ⟨ox, d1, d2⟩ := hfb aj oj (hoth j mj aj hne hj' e2) e3
         exact ⟨j, mj, aj, ox, hj', e2, d1, by rw [← d2]; exact e4⟩
 · have back : ∀ (j : Nat) (mj : QM) (aj : Nat) (oj : OpS), (ms.set i m')[j]? = some mj → isChg mj = some aj → σ'.ops aj = some oj → ∃ mj0 ox, ms[j]? = some mj0 ∧ isChg mj0 = some aj ∧ σ.ops aj = some ox ∧ oj.k = ox.k := by
    intro j mj aj oj hj haj hoj
    rcases qget_cases hi hj with ⟨rfl, rfl⟩ | ⟨hne, hj'⟩
    · rw [haj] at hc'
      have hb : b = false := by
       cases b with
       | false => rfl
       | true => simp at hc'
      rw [hb] at hc'
      simp at hc'
      subst hc'
      rw [t1] at hoj
      injection hoj with hoj
      exact ⟨m, o, hi, hcm, ha, by rw [← hoj, t4]⟩
    · obtain ⟨ox, d1, d2⟩ := hfb aj oj (hoth j mj aj hne hj' haj) hoj
      exact ⟨mj, ox, hj', haj, d1, d2⟩
   obtain ⟨mj0, oj0, x1, x2, x3, x4⟩ := back j mj aj oj hj haj ho1
   obtain ⟨mk0, ok0, y1, y2, y3, y4⟩ := back k mk ak ok hk hak ho2
   exact h.un j k mj0 mk0 aj ak oj0 ok0 x1 y1 x2 y2 x3 y3 (by rw [← x4, ← y4]; exact hko)
end
section
variable {W P n N T : Nat} {q0 : List Int} {σ σ' : PwS} {ms : List QM} {L L' : Nat → Int} {ord : List Nat} {i j a s f c : Nat} {m m' m2 : QM} {sum : List Int → Int} {at0 : Nat → Int} {cnt : Nat} {xs xs' : List Int} {r r' : RdS} {o : OpS} {b : Bool} {v : Int} {bl : Nat × List Nat} {st lv : Nat → Bool} {M : Nat → Prop}
theorem stM_le (m : QM) : stM W P L σ m ≤ 1 := by
 unfold stM
 cases m.ph with
 | start => exact Nat.zero_le _
 | fin v e => exact Nat.zero_le _
 | rd s f c r => simp only; split <;> omega
 | chg f c v a =>
  simp only
  cases (σ.ops a).bind OpS.res with
  | none => simp only; split <;> omega
  | some x => cases x <;> simp
theorem lvM_le (m : QM) : lvM P σ m ≤ 1 := by unfold lvM; split <;> omega
theorem lvM_of (h : m.out P σ ≠ none → m'.out P σ' ≠ none) : lvM P σ' m' ≤ lvM P σ m := by
 unfold lvM
 split
 · rename_i h1
   split
   · exact Nat.le_refl _
   · rename_i h2; exact absurd h1 (h h2)
 · exact Nat.zero_le _
/-- A read is stepped. -/
theorem tM_read (hp : m.ph = .rd s f c r) (h3 : r.place ≤ 2) (hpl : r'.place = r.place + 1) (hraw : r'.raw = if r.place = 0 then L (qWd W P s f) else r.raw) (h1 : σ'.ops = σ.ops) (h2 : σ'.cur = σ.cur) (hst : st i = true) :
 tM st lv W P σ' L i { m with ph := .rd s f c r' } + 1 ≤ tM st lv W P σ L i m := by
 rw [tM_same h1 h2]
 have hg : gM σ { m with ph := .rd s f c r' } = gM σ m := by unfold gM isChg; rw [hp]
 have hw : wM { m with ph := .rd s f c r' } + 1 ≤ wM m := by unfold wM; rw [hp]; simp only; omega
 have hs : stM W P L σ { m with ph := .rd s f c r' } ≤ stM W P L σ m := by
  by_cases h0 : stM W P L σ m = 0
  · have : stM W P L σ { m with ph := .rd s f c r' } = 0 := by
     unfold stM at h0 ⊢
     rw [hp] at h0
     simp only at h0 ⊢
     split at h0
     · rename_i hc
       rw [if_pos]
       refine ⟨hc.1, hc.2.1, fun _ => ?_⟩
       rw [hraw]
       split
       · rfl
       · rename_i hp0; exact hc.2.2 hp0
     · cases h0
    omega
  · have := stM_le (W := W) (P := P) (L := L) (σ := σ) { m with ph := .rd s f c r' }
    omega
 have hl : lvM P σ { m with ph := .rd s f c r' } ≤ lvM P σ m := by
  refine lvM_of (fun hx => ?_)
  unfold QM.out at hx ⊢
  rw [hp] at hx
  simp only at hx ⊢
  have hp0 : r.place ≠ 0 := fun hp0 => hx (by unfold rdOut; rw [if_neg (fun hy => hy.2 hp0)])
  rw [if_neg hp0] at hraw
  unfold rdOut at hx ⊢
  rw [hraw]
  by_cases h2s : s = 2
  · rw [if_pos (show s = 2 ∧ r'.place ≠ 0 from ⟨h2s, by omega⟩)]
    rw [if_pos (show s = 2 ∧ r.place ≠ 0 from ⟨h2s, hp0⟩)] at hx
    exact hx
  · exact absurd (if_neg (fun hy => h2s hy.1)) hx
 unfold tM
 rw [hg, hst, if_pos rfl, if_pos rfl]
 cases lv i
 · simp only [Bool.false_eq_true, if_false]; omega
 · simp only [if_true]; omega
/-- An operation is added in a new block. -/
theorem gAq_add (hI : Inv sum at0 n cnt M N σ xs L) (ha : σ.ops bl.1 = none) (th : Nat) (ins : Bool) (f c : Nat) (v : Int) {x : Nat} (hx : x ≠ bl.1) : gAq (qBeg W P σ th ins f c v bl).1 x = gAq σ x := by
 have hold : ∀ y, y ≠ bl.1 → (qBeg W P σ th ins f c v bl).1.ops y = σ.ops y := fun y hy => if_neg hy
 have hcur : curO (qBeg W P σ th ins f c v bl).1 = curO σ := by
  unfold curO
  show σ.cur.bind _ = σ.cur.bind _
  cases hc : σ.cur with
  | none => rfl
  | some y =>
   obtain ⟨oc, h1, _⟩ := hI.run y hc
   have hy : y ≠ bl.1 := fun he => by rw [he, ha] at h1; cases h1
   show ((qBeg W P σ th ins f c v bl).1.ops y).map _ = _
   rw [hold y hy]; rfl
 unfold gAq
 rw [hold x hx, hcur]
theorem tM_add (hI : Inv sum at0 n cnt M N σ xs L) (ha : σ.ops bl.1 = none) (th : Nat) (ins : Bool) (f c : Nat) (v : Int) (hm : ∀ x, isChg m = some x → x ≠ bl.1) : tM st lv W P (qBeg W P σ th ins f c v bl).1 L i m = tM st lv W P σ L i m := by
 have hold : ∀ y, y ≠ bl.1 → (qBeg W P σ th ins f c v bl).1.ops y = σ.ops y := fun y hy => if_neg hy
 have e1 : gM (qBeg W P σ th ins f c v bl).1 m = gM σ m := by
  unfold gM
  cases hc : isChg m with
  | none => rfl
  | some x => exact gAq_add hI ha th ins f c v (hm x hc)
 have e2 : stM W P L (qBeg W P σ th ins f c v bl).1 m = stM W P L σ m := by
  unfold stM
  cases hp : m.ph with
  | chg f' c' v' a' => simp only; rw [hold a' (hm a' (isChg_of hp))]
  | _ => rfl
 have e3 : lvM P (qBeg W P σ th ins f c v bl).1 m = lvM P σ m := by
  have : m.out P (qBeg W P σ th ins f c v bl).1 = m.out P σ := by
   unfold QM.out
   cases hp : m.ph with
   | chg f' c' v' a' => simp only; unfold chgOut; rw [hold a' (hm a' (isChg_of hp))]
   | _ => rfl
  unfold lvM; rw [this]
 unfold tM; rw [e1, e2, e3]
theorem tM_fin {v e : Int} {en : Nat} : tM st lv W P σ L i { m with ph := .fin v e, en := en } = 0 := by
 unfold tM
 have h1 : gM σ { m with ph := .fin v e, en := en } = 0 := rfl
 have h2 : wM { m with ph := .fin v e, en := en } = 0 := rfl
 have h3 : stM W P L σ { m with ph := .fin v e, en := en } = 0 := rfl
 have h4 : lvM P σ { m with ph := .fin v e, en := en } = 0 := rfl
 rw [h1, h2, h3, h4]; simp
/-- What follows a read that has ended. -/
theorem tM_load (hab : ∃ f0 q, QAb W P L f0 q) (hI : Inv sum at0 n 8 (Mq W P) N σ xs L) (hn : W + 8 + P ≤ 8 * n) (hP : P < 1000000) (hth : m.th < 8) (hp : m.ph = .rd s f c r) (hf : m.ph.facts W P σ m.ins m.val) (hvl : 0 ≤ m.val ∧ m.val < 1099511627776) (he : r.ended = true) (hbl : BlOk σ bl) (hst : st i = true) {en : Nat} :
 tM st lv W P (qLoad W P σ m.th m.ins m.val s f c r.raw bl).1 L i { m with ph := (qLoad W P σ m.th m.ins m.val s f c r.raw bl).2, en := en } ≤ tM st lv W P σ L i m := by
 obtain ⟨f0, q, hab⟩ := hab
 have hP0 : 0 < P := by have := hab.fP; omega
 rw [hp] at hf
 obtain ⟨f1, f2, f3, f4, f5, f6, f7, f8⟩ := hf
 have hpl := f7 he
 obtain ⟨g1, g2, g3, g4⟩ := f8 hpl
 obtain ⟨k, hk⟩ : ∃ k, r.raw % 1099511627776 = k := ⟨_, rfl⟩
 have hk0 : 0 ≤ k ∧ k < 1099511627776 := by omega
 rw [hk] at g3 g4
 have hgm : gM σ m = 0 := by unfold gM isChg; rw [hp]
 have hwm : wM m = 900 + 4 * (3 - s) + (3 - r.place) := by unfold wM; rw [hp]
 have hsm : stM W P L σ m = if (s ≠ 1 → L (qfW W) % 1099511627776 = (f : Int)) ∧ (s = 3 → L (qcW W) % 1099511627776 = (c : Int)) ∧ (r.place ≠ 0 → k = L (qWd W P s f) % 1099511627776) then 0 else 1 := by unfold stM; rw [hp]; simp only [hk]
 have hmo : m.out P σ = rdOut P m.ins s r := by unfold QM.out; rw [hp]
 have sum3 : ∀ (σ1 : PwS) (m1 : QM) (x : Nat), gM σ1 m1 ≤ x → x + wM m1 ≤ wM m → (stM W P L σ m = 0 → stM W P L σ1 m1 = 0) → (m.out P σ ≠ none → m1.out P σ1 ≠ none) → tM st lv W P σ1 L i m1 ≤ tM st lv W P σ L i m := by
  intro σ1 m1 x h1 h2 h3 h4
  have h5 := lvM_of h4
  have h6 : stM W P L σ1 m1 ≤ stM W P L σ m := by
   by_cases h0 : stM W P L σ m = 0
   · rw [h3 h0]; omega
   · have := stM_le (W := W) (P := P) (L := L) (σ := σ1) m1; omega
  unfold tM
  rw [hst, if_pos rfl, if_pos rfl, hgm]
  cases lv i
  · simp only [Bool.false_eq_true, if_false]; omega
  · simp only [if_true]; omega
 have beg : ∀ (f' c' : Nat) (v' : Int), rdOut P m.ins s r = none → f' < P → c' ≤ P → (m.ins = true → c' < P ∧ v' = m.val) → (m.ins = false → 0 < c') → (0 ≤ v' ∧ v' < 1099511627776) → (stM W P L σ m = 0 → satL L (qEnts W P m.ins f' c' v') = true) →
  tM st lv W P (qBeg W P σ m.th m.ins f' c' v' bl).1 L i { m with ph := (qBeg W P σ m.th m.ins f' c' v' bl).2, en := en } ≤ tM st lv W P σ L i m := by
  intro f' c' v' h1 h2 h3 h4 h5 h6 h7
  obtain ⟨b1, b2, b3⟩ := hbl
  have hoo : OpOk 8 n (Mq W P) (newOpQ (firstFree σ.busy) m.th (qEnts W P m.ins f' c' v') bl.2) :=
   newOp_ok hth b3 (by rw [qEnts_len]; omega) (by rw [qEnts_len]; omega) (qEnts_ok h6 h2 h3 h5 hP hn) qEnts_nd (by rw [qEnts_len]; exact b2)
  have hIb : Inv sum at0 n 8 (Mq W P) N (qBeg W P σ m.th m.ins f' c' v' bl).1 xs L := hI.addOp b1 hoo rfl rfl rfl rfl rfl
  have hnew : (qBeg W P σ m.th m.ins f' c' v' bl).1.ops bl.1 = some (newOpQ (firstFree σ.busy) m.th (qEnts W P m.ins f' c' v') bl.2) := if_pos rfl
  have hg := gSq_le (al := [bl.1]) hIb (by simp)
  refine sum3 _ _ 868 ?_ ?_ (fun h0 => ?_) (fun hx => ?_)
  · show gAq (qBeg W P σ m.th m.ins f' c' v' bl).1 bl.1 ≤ 868
    simpa [gSq] using hg
  · show 868 + 0 ≤ _
    rw [hwm]; omega
  · show (match ((qBeg W P σ m.th m.ins f' c' v' bl).1.ops bl.1).bind OpS.res with | none => _ | some true => _ | some false => _) = 0
    rw [hnew]
    show (if satL L (qEnts W P m.ins f' c' v') = true then 0 else 1) = 0
    rw [if_pos (h7 h0)]
  · rw [hmo, h1] at hx; exact absurd rfl hx
 unfold qLoad
 rw [hk]
 rcases f1 with hs | hs | ⟨hs, hins, hc0, hcP⟩
 · rw [if_pos hs]
   refine sum3 σ _ 0 (Nat.le_refl _) ?_ (fun h0 => ?_) (fun hx => ?_)
   · show 0 + (900 + 4 * (3 - 2) + (3 - 0)) ≤ _
     rw [hwm]; omega
   · rw [hsm] at h0
     split at h0
     · rename_i hc
       have h1 := hc.2.2 hpl
       have e : qWd W P s f = qfW W := by unfold qWd; rw [if_pos hs]
       rw [e] at h1
       show (if _ then 0 else 1) = 0
       rw [if_pos]
       refine ⟨fun _ => ?_, fun hx => by omega, fun hx => absurd rfl hx⟩
       rw [← h1]; omega
     · cases h0
   · rw [hmo] at hx
     exact absurd (show rdOut P m.ins s r = none by unfold rdOut; rw [if_neg (fun hy => by omega)]) hx
 · rw [if_neg (by omega), if_pos hs]
   have hrd : rdOut P m.ins s r = if m.ins then (if (P : Int) ≤ k then some (0, 4) else none) else (if k = 0 then some (0, 5) else none) := by
    unfold rdOut
    rw [if_pos ⟨hs, hpl⟩, hk]
   have e : qWd W P s f = qcW W := by unfold qWd; rw [if_neg (by omega), if_pos hs]
   have g4' := g4 hs
   have hfresh : stM W P L σ m = 0 → L (qfW W) % 1099511627776 = (f : Int) ∧ k = L (qcW W) % 1099511627776 := fun h0 => by
    rw [hsm] at h0
    split at h0
    · rename_i hc
      have h1 := hc.2.2 hpl
      rw [e] at h1
      exact ⟨hc.1 (by omega), h1⟩
    · cases h0
   rcases Bool.eq_false_or_eq_true m.ins with hins | hins
   · rw [if_pos hins] at hrd ⊢
     by_cases hle : (P : Int) ≤ k
     · rw [if_pos hle]
       rw [tM_fin]; exact Nat.zero_le _
     · rw [if_neg hle] at hrd ⊢
       refine beg f k.toNat m.val hrd (f2 (by omega)) (by omega) (fun _ => ⟨by omega, rfl⟩) (fun hx => by rw [hins] at hx; cases hx) hvl (fun h0 => ?_)
       obtain ⟨h1, h2⟩ := hfresh h0
       rw [hins]
       refine (hab.put hvl (by omega) (f2 (by omega)) hP).1.2 ⟨?_, ?_⟩
       · have := hab.fst; omega
       · have := hab.cnt; omega
   · rw [if_neg (by rw [hins]; decide)] at hrd ⊢
     by_cases hle : k = 0
     · rw [if_pos hle]
       rw [tM_fin]; exact Nat.zero_le _
     · rw [if_neg hle] at hrd ⊢
       refine sum3 σ _ 0 (Nat.le_refl _) ?_ (fun h0 => ?_) (fun hx => ?_)
       · show 0 + (900 + 4 * (3 - 3) + (3 - 0)) ≤ _
         rw [hwm]; omega
       · obtain ⟨h1, h2⟩ := hfresh h0
         show (if _ then 0 else 1) = 0
         rw [if_pos]
         exact ⟨fun _ => h1, fun _ => by omega, fun hx => absurd rfl hx⟩
       · rw [hmo, hrd] at hx
         exact absurd rfl hx
 · rw [if_neg (by omega), if_neg (by omega)]
   refine beg f c k ?_ (f2 (by omega)) hcP (fun hx => by rw [hins] at hx; cases hx) (fun _ => hc0) hk0 (fun h0 => ?_)
   · unfold rdOut
     rw [if_neg (fun hx => by omega)]
   · rw [hsm] at h0
     split at h0
     · rename_i hc
       have h1 := hc.1 (by omega)
       have h2 := hc.2.1 hs
       have h3 := hc.2.2 hpl
       have e : qWd W P s f = qpW W P f := by unfold qWd; rw [if_neg (by omega), if_neg (by omega)]
       rw [e] at h3
       have hf0 : f = f0 := by have := hab.fst; omega
       have hcl : c = q.length := by have := hab.cnt; omega
       rw [hins]
       refine (hab.get hk0 hc0 hcP (f2 (by omega)) hP).1.2 ⟨hf0, hcl, ?_⟩
       have := hab.val 0 (by omega)
       rw [Nat.add_zero, ← hf0] at this
       rw [h3, this]
     · cases h0
end
theorem length_chgBl : ∀ (ms : List QM) (k : Nat), (chgBl ms).length = cntF (fun _ m => (isChg m).isSome) ms k
 | [], _ => rfl
 | m :: ms, k => by
  have := length_chgBl ms (k + 1)
  unfold cntF chgBl at *
  rw [List.filterMap_cons]
  simp only [sumF]
  rcases (match isChg m with | none => .inl rfl | some a => .inr ⟨a, rfl⟩ : isChg m = none ∨ ∃ a, isChg m = some a) with h | ⟨a, h⟩
  · simp [h, this]
  · simp [h, this]; omega
theorem mem_chgBl {ms : List QM} {a : Nat} : a ∈ chgBl ms ↔ ∃ (i : Nat) (m : QM), ms[i]? = some m ∧ isChg m = some a := by
 unfold chgBl
 rw [List.mem_filterMap]
 constructor
 · rintro ⟨m, h1, h2⟩
   obtain ⟨i, hi⟩ := List.mem_iff_getElem?.1 h1
   exact ⟨i, m, hi, h2⟩
 · rintro ⟨i, m, h1, h2⟩
   exact ⟨m, List.mem_of_getElem? h1, h2⟩
theorem nodup_chgBl : ∀ {ms : List QM}, (∀ (i j : Nat) (mi mj : QM) (a : Nat), ms[i]? = some mi → ms[j]? = some mj → isChg mi = some a → isChg mj = some a → i = j) → (chgBl ms).Nodup
 | [], _ => by simp [chgBl]
 | m :: ms, h => by
  have h2 : (chgBl ms).Nodup := nodup_chgBl (fun i j mi mj a hi hj pi pj => by
   have := h (i + 1) (j + 1) mi mj a hi hj pi pj
   omega)
  unfold chgBl at *
  rw [List.filterMap_cons]
  cases hc : isChg m with
  | none => exact h2
  | some a =>
   simp only
   rw [List.nodup_cons]
   refine ⟨fun hx => ?_, h2⟩
   obtain ⟨i, mi, h3, h4⟩ := mem_chgBl.1 hx
   have := h 0 (i + 1) m mi a rfl h3 hc h4
   omega
theorem sumF_one {f : Nat → QM → Nat} : ∀ {ms : List QM} {j : Nat} {mj : QM} (k : Nat), ms[j]? = some mj → f (k + j) mj ≤ sumF f ms k
 | [], j, mj, k, h => by simp at h
 | x :: ms, 0, mj, k, h => by
  simp at h
  subst h
  simp only [sumF, Nat.add_zero]; omega
 | x :: ms, j + 1, mj, k, h => by
  have h1 : ms[j]? = some mj := by simpa using h
  have := sumF_one (f := f) (k + 1) h1
  simp only [sumF]
  rw [show k + (j + 1) = k + 1 + j by omega]; omega
theorem sumF_cnt (p : Nat → QM → Bool) (c : Nat) : ∀ (ms : List QM) (k : Nat), sumF (fun i m => if p i m then c else 0) ms k = c * cntF p ms k
 | [], _ => rfl
 | m :: ms, k => by
  have := sumF_cnt p c ms (k + 1)
  unfold cntF at *
  simp only [sumF]
  rw [this, Nat.mul_add]
  split <;> simp
def rM (st lv : Nat → Bool) (W P : Nat) (σ : PwS) (L : Nat → Int) (i : Nat) (m : QM) : Nat :=
 (if st i then wM m + 912 * stM W P L σ m else 0) + (if lv i then 3648 * lvM P σ m else 0)
section
variable {W P n N T : Nat} {q0 : List Int} {σ σ' : PwS} {ms : List QM} {L L' : Nat → Int} {ord : List Nat} {i j a s f c : Nat} {m m' m2 : QM} {sum : List Int → Int} {at0 : Nat → Int} {cnt : Nat} {xs xs' : List Int} {r r' : RdS} {o : OpS} {b : Bool} {v : Int} {bl : Nat × List Nat} {st lv : Nat → Bool} {M : Nat → Prop}
theorem phi_eq : phi st lv W P σ L ms = gSq σ (chgBl ms) + sumF (rM st lv W P σ L) ms 0 := by
 rw [← sum_gM σ ms 0, ← sumF_add]
 rfl
theorem bind_key {x : Nat} (h : (σ'.ops x).map OpS.key = (σ.ops x).map OpS.key) : (σ'.ops x).bind OpS.res = (σ.ops x).bind OpS.res := by
 cases h1 : σ.ops x with
 | none => rw [h1] at h; cases h2 : σ'.ops x with
  | none => rfl
  | some o => rw [h2] at h; cases h
 | some o => rw [h1] at h; cases h2 : σ'.ops x with
  | none => rw [h2] at h; cases h
  | some o' =>
   rw [h2] at h
   injection h with h
   exact congrArg (fun y => y.2.2.2) h
theorem out_key (h : ∀ x, isChg m = some x → (σ'.ops x).map OpS.key = (σ.ops x).map OpS.key) : m.out P σ' = m.out P σ := by
 unfold QM.out
 cases hp : m.ph with
 | chg f c v a => simp only; unfold chgOut; rw [bind_key (h a (isChg_of hp))]
 | _ => rfl
theorem stM_key (h : ∀ x, isChg m = some x → (σ'.ops x).map OpS.key = (σ.ops x).map OpS.key) : stM W P L σ' m = stM W P L σ m := by
 unfold stM
 cases hp : m.ph with
 | chg f c v a => simp only; rw [bind_key (h a (isChg_of hp))]
 | _ => rfl
theorem QLs.inj' (h : QLs W P q0 σ ms T L ord) : ∀ (i j : Nat) (mi mj : QM) (a : Nat), ms[i]? = some mi → ms[j]? = some mj → isChg mi = some a → isChg mj = some a → i = j := by
 intro i j mi mj a hi hj pi pj
 obtain ⟨f1, c1, v1, p1⟩ := isChg_inv pi
 obtain ⟨f2, c2, v2, p2⟩ := isChg_inv pj
 exact h.inj i j mi mj _ _ _ _ _ _ a hi hj p1 p2
/-- An operation's step: the sum of the rest does not rise. -/
theorem rM_oper (h : QLs W P q0 σ ms T L ord) (B : QSb σ ms) (S : StepOk sum at0 n cnt (Mq W P) N a o σ L σ' b xs' L') (hi : ms[i]? = some m) (hp : m.ph = .chg f c v a)
 (hlv : ∀ (j : Nat) (mj : QM) (x : Nat), ms[j]? = some mj → isChg mj = some x → (σ.cur = some x ∨ x = a) → lv j = true) :
 sumF (rM st lv W P σ' L') ms 0 ≤ sumF (rM st lv W P σ L) ms 0 := by
 rcases S.eff with ⟨e1, e2⟩ | ⟨cc, oc, oc', e1, e2, e3, e4, e5, e6, e7, e8, e9, e10, e11⟩
 · refine sumF_le ms 0 (fun j mj hj => ?_)
   unfold rM lvM
   rw [e1, stM_key (fun x _ => e2 x), out_key (fun x _ => e2 x)]
   exact Nat.le_refl _
 · obtain ⟨j, mj, fj, cj, vj, g1, g2⟩ : ∃ (j : Nat) (mj : QM) (f k : Nat) (v : Int), ms[j]? = some mj ∧ mj.ph = .chg f k v cc := by
    rcases e9 with e9 | e9
    · exact h.cur cc e9
    · rw [e9]; exact ⟨i, m, f, c, v, hi, hp⟩
   have hok := h.ok j mj g1
   have hf := hok.ph
   rw [g2] at hf
   obtain ⟨f1, f2, f3, f4, f5, oj, f6, f7⟩ := hf
   rw [e1] at f6
   injection f6 with f6
   subst f6
   have hne : ∀ (k : Nat) (mk : QM), ms[k]? = some mk → k ≠ j → ∀ x, isChg mk = some x → x ≠ cc := fun k mk hk hkj x hx hxc => hkj (h.inj' k j mk mj cc hk g1 (by rw [← hxc]; exact hx) (isChg_of g2))
   by_cases hsat : satL L oc.es = true
   · rw [if_pos hsat] at e5
     have hlj : lv j = true := hlv j mj cc g1 (isChg_of g2) e9
     have hov : mj.ph.over = false := isChg_over (isChg_of g2)
     have h1 : sumF (fun k mk => rM st lv W P σ' L' k mk + (if k = j then 3648 else 0)) ms 0 ≤ sumF (fun k mk => rM st lv W P σ L k mk + (if (decide (k ≠ j) && !mk.ph.over) then 912 else 0)) ms 0 := by
      refine sumF_le ms 0 (fun k mk hk => ?_)
      simp only [Nat.zero_add]
      by_cases hkj : k = j
      · subst hkj
        rw [g1] at hk
        injection hk with hk
        subst hk
        have hs' : stM W P L' σ' mj = 0 := by unfold stM; rw [g2]; simp only; rw [e2]; show (match oc'.res with | none => _ | some true => _ | some false => _) = 0; rw [e4, hsat]
        have hl' : lvM P σ' mj = 0 := by unfold lvM QM.out; rw [g2]; show (if chgOut σ' vj cc = none then 1 else 0) = 0; unfold chgOut; rw [e2]; simp [e4, hsat]
        have hl : lvM P σ mj = 1 := by unfold lvM QM.out; rw [g2]; show (if chgOut σ vj cc = none then 1 else 0) = 1; unfold chgOut; rw [e1]; simp [e3]
        unfold rM
        rw [hs', hl', hl, hlj]
        simp only [if_true, ne_eq, not_true_eq_false, decide_false, Bool.false_and, Bool.false_eq_true, if_false]
        split <;> omega
      · have hk' := hne k mk hk hkj
        have hl : lvM P σ' mk = lvM P σ mk := by unfold lvM; rw [out_key (fun x hx => e11 x (hk' x hx))]
        unfold rM
        rw [hl, if_neg hkj]
        have hs : stM W P L' σ' mk ≤ stM W P L σ mk + (if (decide (k ≠ j) && !mk.ph.over) then 1 else 0) := by
         cases hovk : mk.ph.over with
         | true =>
          have : stM W P L' σ' mk = 0 := by
           unfold stM
           cases hpk : mk.ph <;> rw [hpk] at hovk <;> first | rfl | cases hovk
          omega
         | false =>
          have := stM_le (W := W) (P := P) (L := L') (σ := σ') mk
          simp [hkj]; omega
        cases hd : (decide (k ≠ j) && !mk.ph.over) with
        | true => rw [hd] at hs; simp only [if_true] at hs ⊢; split <;> omega
        | false => rw [hd] at hs; simp only [Bool.false_eq_true, if_false] at hs ⊢; split <;> omega
     have h2 := sumF_add (rM st lv W P σ' L') (fun k _ => if k = j then 3648 else 0) ms 0
     have h3 := sumF_add (rM st lv W P σ L) (fun k mk => if (decide (k ≠ j) && !mk.ph.over) then 912 else 0) ms 0
     have h4 := sumF_one (f := fun k _ => if k = j then 3648 else 0) 0 g1
     have h5 := sumF_cnt (fun k mk => decide (k ≠ j) && !mk.ph.over) 912 ms 0
     have h6 : cntF (fun k mk => decide (k ≠ j) && !mk.ph.over) ms 0 ≤ 3 := B.th.cnt3 (fun k mk _ hx => by simp at hx; exact hx.2) g1 hov (fun mk => by simp)
     simp only [Nat.zero_add, if_true] at h4
     omega
   · rw [if_neg hsat] at e5
     have hsf : satL L oc.es = false := by simpa using hsat
     refine sumF_le ms 0 (fun k mk hk => ?_)
     rw [e5]
     by_cases hkj : k = j
     · subst hkj
       rw [g1] at hk
       injection hk with hk
       subst hk
       have hs' : stM W P L σ' mj = stM W P L σ mj := by
        unfold stM; rw [g2]; simp only; rw [e2, e1]
        show (match oc'.res with | none => _ | some true => _ | some false => _) = (match oc.res with | none => _ | some true => _ | some false => _)
        rw [e4, e3, hsf]
        show 1 = if satL L (qEnts W P mj.ins fj cj vj) = true then 0 else 1
        rw [← f7, hsf]; rfl
       have hl' : lvM P σ' mj = lvM P σ mj := by
        unfold lvM QM.out; rw [g2]
        show (if chgOut σ' vj cc = none then 1 else 0) = (if chgOut σ vj cc = none then 1 else 0)
        unfold chgOut; rw [e2, e1]; simp [e4, e3, hsf]
       unfold rM
       rw [hs', hl']
       exact Nat.le_refl _
     · have hk' := hne k mk hk hkj
       unfold rM lvM
       rw [stM_key (fun x hx => e11 x (hk' x hx)), out_key (fun x hx => e11 x (hk' x hx))]
       exact Nat.le_refl _
theorem phi_oper (h : QLs W P q0 σ ms T L ord) (B : QSb σ ms) (hI : Inv sum at0 n cnt (Mq W P) N σ xs L) (hR : RegOk n cnt (Mq W P) at0) (hN : N < 1000000) (S : StepOk sum at0 n cnt (Mq W P) (N + 1) a o σ L σ' b xs' L') (hi : ms[i]? = some m) (hp : m.ph = .chg f c v a) (ha : σ.ops a = some o) (he : o.ended = false)
 (hlv : ∀ (j : Nat) (mj : QM) (x : Nat), ms[j]? = some mj → isChg mj = some x → (σ.cur = some x ∨ x = a) → lv j = true) :
 phi st lv W P σ' L' ms + 1 ≤ phi st lv W P σ L ms := by
 rw [phi_eq, phi_eq]
 have h1 := rM_oper (st := st) h B S hi hp hlv
 have h2 := hI.step_decq hR hN ha he (nodup_chgBl h.inj') (mem_chgBl.2 ⟨i, m, hi, isChg_of hp⟩) (by
  rw [length_chgBl ms 0]
  exact B.th.cnt4 (fun k mk _ hx => by
   cases hc : isChg mk with
   | none => rw [hc] at hx; cases hx
   | some x => exact isChg_over hc))
 rw [S.eq] at h2
 dsimp only at h2
 omega
/-- An operation that has ended without a change: the call reads anew. -/
theorem tM_again (hp : m.ph = .chg f c v a) (hr : (σ.ops a).bind OpS.res = some false) (hst : st i = true) {en : Nat} :
 tM st lv W P σ L i { m with ph := .rd 1 0 0 (rd0 m.th (qfW W)), en := en } ≤ tM st lv W P σ L i m := by
 have h1 : gM σ { m with ph := .rd 1 0 0 (rd0 m.th (qfW W)), en := en } = 0 := rfl
 have h2 : wM { m with ph := .rd 1 0 0 (rd0 m.th (qfW W)), en := en } = 911 := rfl
 have h3 : stM W P L σ { m with ph := .rd 1 0 0 (rd0 m.th (qfW W)), en := en } = 0 := by
  simp only [stM]
  rw [if_pos]
  exact ⟨fun hx => absurd rfl hx, fun hx => by omega, fun hx => absurd rfl hx⟩
 have h4 : stM W P L σ m = 1 := by unfold stM; rw [hp]; simp only; rw [hr]
 have h5 : lvM P σ { m with ph := .rd 1 0 0 (rd0 m.th (qfW W)), en := en } ≤ lvM P σ m := lvM_of (fun hx => by
  unfold QM.out at hx
  rw [hp] at hx
  exact absurd (show chgOut σ v a = none by unfold chgOut; rw [hr]; rfl) hx)
 unfold tM
 rw [h1, h2, h3, h4, hst, if_pos rfl, if_pos rfl]
 cases lv i
 · simp only [Bool.false_eq_true, if_false]; omega
 · simp only [if_true]; omega
end
structure QW (sum : List Int → Int) (at0 : Nat → Int) (n W P : Nat) (q0 : List Int) (σ : PwS) (ms : List QM) (N T : Nat) (xs : List Int) (L : Nat → Int) (ord : List Nat) : Prop where
 inv : Inv sum at0 n 8 (Mq W P) N σ xs L
 ls : QLs W P q0 σ ms T L ord
 sb : QSb σ ms
/-- The call whose change has the pool is among those that are stepped or whose taking effect counts. -/
def LvOk (σ : PwS) (ms : List QM) (lv : Nat → Bool) : Prop := ∀ (j : Nat) (mj : QM) (x : Nat), ms[j]? = some mj → isChg mj = some x → σ.cur = some x → lv j = true
section
variable {W P n N T : Nat} {q0 : List Int} {σ σ' : PwS} {ms : List QM} {L L' : Nat → Int} {ord : List Nat} {i j a s f c : Nat} {m m' m2 : QM} {sum : List Int → Int} {at0 : Nat → Int} {cnt : Nat} {xs xs' : List Int} {r r' : RdS} {o : OpS} {b : Bool} {v : Int} {bl : Nat × List Nat} {st lv : Nat → Bool} {M : Nat → Prop}
theorem QTh.lt (h : QTh ms) (hi : ms[i]? = some m) (hov : m.ph.over = false) : m.th < 8 := by
 rcases h.in_ i m hi hov with h | h | h | h <;> omega
theorem QSb.chO (h : QSb σ ms) : ∀ (j : Nat) (mj : QM) (a : Nat), ms[j]? = some mj → isChg mj = some a → ∃ o, σ.ops a = some o := by
 intro j mj a hj ha
 obtain ⟨f, c, v, hp⟩ := isChg_inv ha
 obtain ⟨o, h1, _⟩ := h.ch j mj f c v a hj hp
 exact ⟨o, h1⟩
theorem isChg_rd (hp : m.ph = .rd s f c r) : isChg m = none := by unfold isChg; rw [hp]
theorem QSb.load (B : QSb σ ms) (hi : ms[i]? = some m) (hov : m.ph.over = false) (hc : isChg m = none) (hbl : σ.ops bl.1 = none) {ins : Bool} {val raw : Int} (hth : m'.th = m.th) (hp : m'.ph = (qLoad W P σ m.th ins val s f c raw bl).2) :
 QSb (qLoad W P σ m.th ins val s f c raw bl).1 (ms.set i m') := by
 have rd : ∀ (s' f' c' k : Nat), m'.ph = .rd s' f' c' (rd0 m.th k) → QSb σ (ms.set i m') := fun s' f' c' k he =>
  B.keep hi hth hov hc (isChg_rd he) (fun s2 f2 c2 r2 hx => by rw [he] at hx; injection hx with _ _ _ hx; rw [← hx]; exact ⟨rfl, hth.symm⟩) rfl rfl
 have fin : ∀ (v e : Int), m'.ph = .fin v e → QSb σ (ms.set i m') := fun v e he =>
  B.keep hi hth hov hc (by unfold isChg; rw [he]) (fun s2 f2 c2 r2 hx => by rw [he] at hx; cases hx) rfl rfl
 have beg : ∀ (f' c' : Nat) (v' : Int), m'.ph = (qBeg W P σ m.th ins f' c' v' bl).2 → QSb (qBeg W P σ m.th ins f' c' v' bl).1 (ms.set i m') := fun f' c' v' he =>
  B.beg hi hth hov hc he hbl ins f' c' v' B.chO
 unfold qLoad at hp ⊢
 split
 · rename_i hs
   rw [if_pos hs] at hp
   exact rd _ _ _ _ hp
 · rename_i hs
   rw [if_neg hs] at hp
   split
   · rename_i hs2
     rw [if_pos hs2] at hp
     cases ins with
     | true =>
      simp only [if_true] at hp ⊢
      split
      · rename_i hk
        rw [if_pos hk] at hp
        exact fin _ _ hp
      · rename_i hk
        rw [if_neg hk] at hp
        exact beg _ _ _ hp
     | false =>
      simp only [Bool.false_eq_true, if_false] at hp ⊢
      split
      · rename_i hk
        rw [if_pos hk] at hp
        exact fin _ _ hp
      · rename_i hk
        rw [if_neg hk] at hp
        exact rd _ _ _ _ hp
   · rename_i hs2
     rw [if_neg hs2] at hp
     exact beg _ _ _ hp
theorem tM_qLoad (hI : Inv sum at0 n 8 M N σ xs L) (ha : σ.ops bl.1 = none) {ins : Bool} {val raw : Int} {th : Nat} (hm : ∀ x, isChg m = some x → x ≠ bl.1) : tM st lv W P (qLoad W P σ th ins val s f c raw bl).1 L j m = tM st lv W P σ L j m := by
 unfold qLoad
 split
 · rfl
 · split
   · split
     · split
       · rfl
       · exact tM_add hI ha _ _ _ _ _ hm
     · split <;> rfl
   · exact tM_add hI ha _ _ _ _ _ hm
theorem qLoad_cur {ins : Bool} {val raw : Int} {th : Nat} : (qLoad W P σ th ins val s f c raw bl).1.cur = σ.cur := by
 unfold qLoad
 split
 · rfl
 · split
   · split
     · split <;> rfl
     · split <;> rfl
   · rfl
/-- A call reads on. -/
theorem QW.goRd (h : QW sum at0 n W P q0 σ (ms.set i m') N (T + 1) xs L ord) (hN : N < 1000000) (hil : i < ms.length) (hn : W + 8 + P ≤ 8 * n) (hP : P < 1000000) (hp : m'.ph = .rd s f c r) (ha : σ.ops bl.1 = none) (hpm : bl.2.Perm (List.range 3)) :
 ∃ ord', QW sum at0 n W P q0 (qRd W P σ m' s f c r bl).1 (ms.set i { m' with ph := (qRd W P σ m' s f c r bl).2, en := if (qRd W P σ m' s f c r bl).2.over then T else m'.en }) (N + 1) (T + 1) xs L ord' ∧
  (qRd W P σ m' s f c r bl).1.cur = σ.cur ∧ ∀ st lv : Nat → Bool, st i = true →
   phi st lv W P (qRd W P σ m' s f c r bl).1 L (ms.set i { m' with ph := (qRd W P σ m' s f c r bl).2, en := if (qRd W P σ m' s f c r bl).2.over then T else m'.en }) + 1 ≤ phi st lv W P σ L (ms.set i m') := by
 have hi : (ms.set i m')[i]? = some m' := List.getElem?_set_self hil
 have hov : m'.ph.over = false := by rw [hp]; rfl
 have hth := h.sb.th.lt hi hov
 obtain ⟨he, hrt⟩ := h.sb.rd i m' s f c r hi hp
 have hbl : BlOk σ bl := ⟨ha, hpm, h.sb.free.1⟩
 obtain ⟨ordA, A1, A2⟩ := h.ls.goRd h.inv hN hil hn hP hth hp he hbl
 obtain ⟨ordB, h1, h2, h3, h4, h5, h6, h7, h8⟩ := h.ls.read h.inv hN hn hi hp he
 rw [List.set_set] at h8
 have hpl : r.place ≤ 2 := by
  have hf := (h.ls.ok i m' hi).ph
  rw [hp] at hf
  exact hf.2.2.2.2.2.1 he
 have hc : isChg m' = none := isChg_rd hp
 have B1 : QSb (σ.rstep r).1 (ms.set i m') := by
  have := h.sb.keep (m' := m') (σ' := (σ.rstep r).1) hi rfl hov hc hc (fun s2 f2 c2 r2 hx => h.sb.rd i m' s2 f2 c2 r2 hi hx) h2 h4
  rwa [set_self hi] at this
 have P1 : ∀ st lv : Nat → Bool, st i = true → phi st lv W P (σ.rstep r).1 L (ms.set i { m' with ph := .rd s f c (σ.rstep r).2 }) + 1 ≤ phi st lv W P σ L (ms.set i m') := by
  intro st lv hst
  have := phi_one (st := st) (lv := lv) (W := W) (P := P) (σ := σ) (σ' := (σ.rstep r).1) (L := L) (L' := L) (m' := { m' with ph := .rd s f c (σ.rstep r).2 }) (k := 1) hi (fun j mj _ _ => Nat.le_of_eq (tM_same h2 h3 j mj)) (tM_read hp hpl h5 h7 h2 h3 hst)
  rwa [List.set_set] at this
 refine ⟨ordA, ⟨A1, A2, ?_⟩, ?_, fun st lv hst => ?_⟩
 · unfold qRd
   cases hee : (σ.rstep r).2.ended with
   | false =>
    simp only [Bool.false_eq_true, if_false]
    have := h.sb.keep (m' := { m' with ph := .rd s f c (σ.rstep r).2, en := if (QPh.rd s f c (σ.rstep r).2).over then T else m'.en }) (σ' := (σ.rstep r).1) hi rfl hov hc rfl (fun s2 f2 c2 r2 hx => by injection hx with _ _ _ hx; rw [← hx]; exact ⟨hee, h6.trans hrt⟩) h2 h4
    rwa [List.set_set] at this
   | true =>
    simp only [if_true]
    have := B1.load (m' := { m' with ph := (qLoad W P (σ.rstep r).1 m'.th m'.ins m'.val s f c (σ.rstep r).2.raw bl).2, en := if (qLoad W P (σ.rstep r).1 m'.th m'.ins m'.val s f c (σ.rstep r).2.raw bl).2.over then T else m'.en }) hi hov hc (by rw [h2]; exact ha) rfl rfl
    rwa [List.set_set] at this
 · unfold qRd
   split
   · rw [qLoad_cur, h3]
   · exact h3
 · unfold qRd
   cases hee : (σ.rstep r).2.ended with
   | false =>
    simp only [Bool.false_eq_true, if_false]
    exact P1 st lv hst
   | true =>
    simp only [if_true]
    have hi2 : (ms.set i { m' with ph := .rd s f c (σ.rstep r).2 })[i]? = some { m' with ph := .rd s f c (σ.rstep r).2 } := List.getElem?_set_self hil
    have hk2 := h8.ok i _ hi2
    have hb2 : BlOk (σ.rstep r).1 bl := ⟨by rw [h2]; exact ha, hpm, by rw [h4]; exact hbl.2.2⟩
    have := phi_one (st := st) (lv := lv) (W := W) (P := P) (σ := (σ.rstep r).1) (σ' := (qLoad W P (σ.rstep r).1 m'.th m'.ins m'.val s f c (σ.rstep r).2.raw bl).1) (L := L) (L' := L) (m' := { m' with ph := (qLoad W P (σ.rstep r).1 m'.th m'.ins m'.val s f c (σ.rstep r).2.raw bl).2, en := if (qLoad W P (σ.rstep r).1 m'.th m'.ins m'.val s f c (σ.rstep r).2.raw bl).2.over then T else m'.en }) (k := 0) hi2
     (fun j mj hj hmj => Nat.le_of_eq (tM_qLoad h1 hb2.1 (fun x hx hxe => by
      rw [List.getElem?_set_ne (Ne.symm hj)] at hmj
      obtain ⟨ox, hox⟩ := h.sb.chO j mj x (by rw [List.getElem?_set_ne (Ne.symm hj)]; exact hmj) hx
      rw [hxe, ha] at hox; cases hox)))
     (tM_load (m := { m' with ph := .rd s f c (σ.rstep r).2 }) (h8.ab.elim fun f0 hx => ⟨f0, _, hx⟩) h1 hn hP hth rfl hk2.ph hk2.vl hee hb2 hst)
    rw [List.set_set] at this
    have h9 := P1 st lv hst
    omega
end
section
variable {W P n N T : Nat} {q0 : List Int} {σ σ' : PwS} {ms : List QM} {L L' : Nat → Int} {ord : List Nat} {i j a s f c : Nat} {m m' m2 : QM} {sum : List Int → Int} {at0 : Nat → Int} {cnt : Nat} {xs xs' : List Int} {r r' : RdS} {o : OpS} {b : Bool} {v : Int} {bl : Nat × List Nat} {st lv : Nat → Bool} {M : Nat → Prop}
theorem LvOk.keep (h : LvOk σ ms lv) (hi : ms[i]? = some m) (hc : isChg m = none) (hlv : lv i = true) (hcur : σ'.cur = σ.cur) : LvOk σ' (ms.set i m') lv := by
 intro j mj x hj hx hcc
 rcases qget_cases hi hj with ⟨rfl, _⟩ | ⟨_, hj'⟩
 · exact hlv
 · exact h j mj x hj' hx (by rw [← hcur]; exact hcc)
theorem LvOk.oper (h : LvOk σ ms lv) (hi : ms[i]? = some m) (hc : isChg m = some a) (hlv : lv i = true) (hinj : ∀ (i j : Nat) (mi mj : QM) (a : Nat), ms[i]? = some mi → ms[j]? = some mj → isChg mi = some a → isChg mj = some a → i = j) (hcur : σ'.cur = σ.cur ∨ σ'.cur = none ∨ σ'.cur = some a) : LvOk σ' (ms.set i m') lv := by
 intro j mj x hj hx hcc
 rcases qget_cases hi hj with ⟨rfl, _⟩ | ⟨hne, hj'⟩
 · exact hlv
 · rcases hcur with e | e | e
   · exact h j mj x hj' hx (by rw [← e]; exact hcc)
   · rw [e] at hcc; cases hcc
   · rw [e] at hcc
     injection hcc with hcc
     rw [← hcc] at hx
     exact absurd (hinj j i mj m a hj' hi hx hc) hne
theorem QW.step (h : QW sum at0 n W P q0 σ ms N T xs L ord) (hR : RegOk n 8 (Mq W P) at0) (hN : N < 1000000) (hn : W + 8 + P ≤ 8 * n) (hP : P < 1000000) (hi : ms[i]? = some m) (hov : m.ph.over = false) (ha : σ.ops bl.1 = none) (hpm : bl.2.Perm (List.range 3)) :
 ∃ xs' L' ord', QW sum at0 n W P q0 (qStep sum at0 W P σ m bl).1 (ms.set i (m.next T (qStep sum at0 W P σ m bl).2)) (N + 1) (T + 1) xs' L' ord' ∧
  ∀ st lv : Nat → Bool, st i = true → lv i = true → LvOk σ ms lv →
   LvOk (qStep sum at0 W P σ m bl).1 (ms.set i (m.next T (qStep sum at0 W P σ m bl).2)) lv ∧ phi st lv W P (qStep sum at0 W P σ m bl).1 L' (ms.set i (m.next T (qStep sum at0 W P σ m bl).2)) + 1 ≤ phi st lv W P σ L ms := by
 have hil := (List.getElem?_eq_some_iff.1 hi).1
 have h1 := h.ls.later (Nat.le_succ T)
 have hth := h.sb.th.lt hi hov
 cases hp : m.ph with
 | fin v e => rw [hp] at hov; cases hov
 | start =>
  have hc : isChg m = none := by unfold isChg; rw [hp]
  have hq : qStep sum at0 W P σ m bl = qRd W P σ m 1 0 0 (rd0 m.th (qfW W)) bl := by unfold qStep; rw [hp]
  rw [hq]
  obtain ⟨m1, hm1⟩ : ∃ m1 : QM, m1 = { m with ph := .rd 1 0 0 (rd0 m.th (qfW W)), bg := T } := ⟨_, rfl⟩
  have hb : QW sum at0 n W P q0 σ (ms.set i m1) N (T + 1) xs L ord := by
   refine ⟨h.inv, ?_, ?_⟩
   · rw [hm1]
     refine h1.move (σ' := σ) (m' := { m with ph := .rd 1 0 0 (rd0 m.th (qfW W)), bg := T }) hi rfl rfl ?_ ?_ (fun _ _ hx => hx) rfl (fun f k v a hx => by rw [hp] at hx; cases hx) (fun f k v a hx => (by cases hx)) ⟨fun _ => Nat.lt_succ_self T, fun hx => (by cases hx)⟩ (fun hx => by rw [hp] at hx; cases hx) hov (fun hx => (by cases hx))
     · unfold QM.out; rw [hp]; rfl
     · have e : qfW W = qWd W P 1 0 := by unfold qWd; rw [if_pos rfl]
       rw [e]
       exact rd0_facts hth (.inl rfl) (fun hx => absurd rfl hx)
   · exact h.sb.keep hi (by rw [hm1]) hov hc (by rw [hm1]; rfl) (fun s2 f2 c2 r2 hx => by rw [hm1] at hx ⊢; injection hx with _ _ _ hx; rw [← hx]; exact ⟨rfl, rfl⟩) rfl rfl
  have hp1 : m1.ph = .rd 1 0 0 (rd0 m.th (qfW W)) := by rw [hm1]
  obtain ⟨ord', g1, g2, g3⟩ := hb.goRd (bl := bl) hN hil hn hP hp1 ha hpm
  have hx : m.next T (qRd W P σ m 1 0 0 (rd0 m.th (qfW W)) bl).2 = { m1 with ph := (qRd W P σ m1 1 0 0 (rd0 m.th (qfW W)) bl).2, en := if (qRd W P σ m1 1 0 0 (rd0 m.th (qfW W)) bl).2.over then T else m1.en } := by
   unfold QM.next; rw [hp, hm1]; rfl
  have hy : qRd W P σ m 1 0 0 (rd0 m.th (qfW W)) bl = qRd W P σ m1 1 0 0 (rd0 m.th (qfW W)) bl := by rw [hm1]; rfl
  rw [hx, hy]
  refine ⟨xs, L, ord', g1, fun st lv hst hlv hlo => ⟨hlo.keep hi hc hlv g2, Nat.le_trans (g3 st lv hst) ?_⟩⟩
  refine phi_one (k := 0) hi (fun j mj _ _ => Nat.le_refl _) (Nat.le_of_eq ?_)
  rw [hm1]
  have e1 : gM σ m = 0 := by unfold gM; rw [hc]
  have e2 : wM m = 911 := by unfold wM; rw [hp]
  have e3 : stM W P L σ m = 0 := by unfold stM; rw [hp]
  have e4 : lvM P σ m = 1 := by unfold lvM QM.out; rw [hp]; rfl
  have d1 : gM σ { m with ph := .rd 1 0 0 (rd0 m.th (qfW W)), bg := T } = 0 := rfl
  have d2 : wM { m with ph := .rd 1 0 0 (rd0 m.th (qfW W)), bg := T } = 911 := rfl
  have d3 : stM W P L σ { m with ph := .rd 1 0 0 (rd0 m.th (qfW W)), bg := T } = 0 := by
   simp only [stM]
   rw [if_pos]
   exact ⟨fun hx => absurd rfl hx, fun hx => by omega, fun hx => absurd rfl hx⟩
  have d4 : lvM P σ { m with ph := .rd 1 0 0 (rd0 m.th (qfW W)), bg := T } = 1 := rfl
  unfold tM
  rw [e1, e2, e3, e4, d1, d2, d3, d4]
  rfl
 | rd s f c r =>
  have hc : isChg m = none := isChg_rd hp
  have hq : qStep sum at0 W P σ m bl = qRd W P σ m s f c r bl := by unfold qStep; rw [hp]
  rw [hq]
  have hb : QW sum at0 n W P q0 σ (ms.set i m) N (T + 1) xs L ord := by rw [set_self hi]; exact ⟨h.inv, h1, h.sb⟩
  obtain ⟨ord', g1, g2, g3⟩ := hb.goRd (bl := bl) hN hil hn hP hp ha hpm
  have hx : m.next T (qRd W P σ m s f c r bl).2 = { m with ph := (qRd W P σ m s f c r bl).2, en := if (qRd W P σ m s f c r bl).2.over then T else m.en } := by
   unfold QM.next; rw [hp]; rfl
  rw [hx]
  refine ⟨xs, L, ord', g1, fun st lv hst hlv hlo => ⟨hlo.keep hi hc hlv g2, ?_⟩⟩
  have := g3 st lv hst
  rwa [set_self hi] at this
 | chg f c v a =>
  have hcm := isChg_of hp
  obtain ⟨o, f6, hoe, _, _⟩ := h.sb.ch i m f c v a hi hp
  obtain ⟨σ', b, xs', L', S⟩ := h.inv.step hR hN f6
  obtain ⟨ord', g1⟩ := h1.oper h.inv hP S hi hp
  have hnext : ∀ ph : QPh, m.next T ph = { m with ph := ph, en := if ph.over then T else m.en } := fun ph => by unfold QM.next; rw [hp]; rfl
  have hq : qStep sum at0 W P σ m bl = if b then (σ', if chgd σ' a then .fin v 0 else .rd 1 0 0 (rd0 m.th (qfW W))) else (σ', m.ph) := by unfold qStep; rw [hp]; simp only [S.eq]
  have hcur := step_cur (sum := sum) (at0 := at0) (σ := σ) (a := a)
  rw [S.eq] at hcur
  dsimp only at hcur
  have hlvs : ∀ lv : Nat → Bool, lv i = true → LvOk σ ms lv → ∀ (j : Nat) (mj : QM) (x : Nat), ms[j]? = some mj → isChg mj = some x → (σ.cur = some x ∨ x = a) → lv j = true := fun lv hlv hlo j mj x hj hx hor => by
   rcases hor with e | e
   · exact hlo j mj x hj hx e
   · rw [e] at hx; rw [h.ls.inj' j i mj m a hj hi hx hcm]; exact hlv
  have hph : ∀ st lv : Nat → Bool, lv i = true → LvOk σ ms lv → phi st lv W P σ' L' ms + 1 ≤ phi st lv W P σ L ms := fun st lv hlv hlo =>
   phi_oper h.ls h.sb h.inv hR hN S hi hp f6 hoe (hlvs lv hlv hlo)
  rw [hq]
  cases b with
  | false =>
   simp only [Bool.false_eq_true, if_false]
   have hx : m.next T m.ph = m := by rw [hnext, hov]; rfl
   rw [hx]
   refine ⟨xs', L', ord', ⟨S.inv, by rw [set_self hi]; exact g1, ?_⟩, fun st lv hst hlv hlo => ⟨hlo.oper hi hcm hlv h.ls.inj' hcur, by rw [set_self hi]; exact hph st lv hlv hlo⟩⟩
   exact h.sb.oper h.ls.inj' S hi hp f6 hoe rfl (by rw [hcm]; rfl) (fun _ _ _ _ _ => rfl) (fun s2 f2 c2 r2 hx => by rw [hp] at hx; cases hx)
  | true =>
   simp only [if_true]
   obtain ⟨o', t1, t2, t3, t4, t5, t6, t7, t8⟩ := S.self
   have hdn := S.inv.fin a o' t1 t2
   have hres : o'.res = some o'.changed := by unfold OpS.res; rw [if_pos hdn]
   have hcha : chgd σ' a = o'.changed := by unfold chgd; rw [t1]
   have hnc : σ'.cur ≠ some a := fun hc => by
    obtain ⟨oc, u1, u2, _⟩ := S.inv.run a hc
    rw [t1] at u1
    injection u1 with u1
    rw [← u1, hdn] at u2
    cases u2
   have g2 : QLs W P q0 σ' (ms.set i m) (T + 1) L' ord' := by rw [set_self hi]; exact g1
   have hmo : m.out P σ' = if o'.changed then some (v, 0) else none := by
    unfold QM.out; rw [hp]; show chgOut σ' v a = _; unfold chgOut; rw [t1]; show (if o'.res = some true then _ else _) = _; rw [hres]; cases o'.changed <;> rfl
   rw [hnext, hcha]
   cases hch : o'.changed with
   | true =>
    rw [hch] at hmo
    simp only [if_true]
    refine ⟨xs', L', ord', ⟨S.inv, ?_, ?_⟩, fun st lv hst hlv hlo => ⟨hlo.oper hi hcm hlv h.ls.inj' hcur, ?_⟩⟩
    · exact g2.then_ hil (by rw [hmo]; rfl) trivial (fun _ _ hx => hx) rfl (fun f k v a' hx => by rw [hp] at hx; injection hx with _ _ _ hx; rw [← hx]; exact hnc) (fun f k v a hx => (by cases hx)) (by rw [hp]; rfl) hov (fun _ => rfl)
    · exact h.sb.oper h.ls.inj' S hi hp f6 hoe rfl rfl (fun f' c' v' a' hx => (by cases hx)) (fun s2 f2 c2 r2 hx => (by cases hx))
    · have h2 := phi_one (st := st) (lv := lv) (W := W) (P := P) (σ := σ') (σ' := σ') (L := L') (L' := L') (m' := { m with ph := .fin v 0, en := if (QPh.fin v 0).over then T else m.en }) (k := 0) hi (fun j mj _ _ => Nat.le_refl _) (by rw [tM_fin]; exact Nat.zero_le _)
      have h3 := hph st lv hlv hlo
      omega
   | false =>
    rw [hch] at hmo
    simp only [Bool.false_eq_true, if_false]
    refine ⟨xs', L', ord', ⟨S.inv, ?_, ?_⟩, fun st lv hst hlv hlo => ⟨hlo.oper hi hcm hlv h.ls.inj' hcur, ?_⟩⟩
    · refine g2.then_ hil (by rw [hmo]; rfl) ?_ (fun _ _ hx => hx) rfl (fun f k v a' hx => by rw [hp] at hx; injection hx with _ _ _ hx; rw [← hx]; exact hnc) (fun f k v a hx => (by cases hx)) (by rw [hp]; rfl) hov (fun hx => (by cases hx))
      have e : qfW W = qWd W P 1 0 := by unfold qWd; rw [if_pos rfl]
      rw [e]
      exact rd0_facts hth (.inl rfl) (fun hx => absurd rfl hx)
    · exact h.sb.oper h.ls.inj' S hi hp f6 hoe rfl rfl (fun f' c' v' a' hx => (by cases hx)) (fun s2 f2 c2 r2 hx => by injection hx with _ _ _ hx; rw [← hx]; exact ⟨rfl, rfl⟩)
    · have h2 := phi_one (st := st) (lv := lv) (W := W) (P := P) (σ := σ') (σ' := σ') (L := L') (L' := L') (m' := { m with ph := .rd 1 0 0 (rd0 m.th (qfW W)), en := if (QPh.rd 1 0 0 (rd0 m.th (qfW W))).over then T else m.en }) (k := 0) hi (fun j mj _ _ => Nat.le_refl _) (tM_again hp (by rw [t1]; show o'.res = some false; rw [hres, hch]) hst)
      have h3 := hph st lv hlv hlo
      omega
end
/-- A call as the reference has it. -/
structure RQ where
 put : Bool
 val : Int
 bg : Int
 en : Int
 ended : Bool
 got : Int
 err : Int
def RQ0 : RQ := ⟨false, 0, 0, 0, false, 0, 0⟩
def rqBef (a b : RQ) : Bool := a.ended && decide (a.en < b.bg)
def rqNext (l : List RQ) (used : List Bool) (i : Nat) : Bool := !used.getD i true && (List.range l.length).all fun k => !(decide (k ≠ i) && (!used.getD k true && rqBef (l.getD k RQ0) (l.getD i RQ0)))
def rqFit (P : Nat) (q : List Int) (c : RQ) : Bool := !c.ended || ((qApp P q c.put c.val).2.1 == c.got && (qApp P q c.put c.val).2.2 == c.err)
def rqAft (P : Nat) (q : List Int) (c : RQ) : List Int := (qApp P q c.put c.val).1
def rqAll (l : List RQ) (used : List Bool) : Bool := (List.range l.length).all fun i => used.getD i true || !(l.getD i RQ0).ended
def exq (P : Nat) (l : List RQ) (fin : List Int) : Nat → List Int → List Bool → Bool
 | 0, q, used => rqAll l used && q == fin
 | n + 1, q, used => (rqAll l used && q == fin) || (List.range l.length).any fun i => rqNext l used i && rqFit P q (l.getD i RQ0) && exq P l fin n (rqAft P q (l.getD i RQ0)) (used.set i true)
section
variable {P : Nat} {l : List RQ} {fin q : List Int} {used : List Bool} {n : Nat}
theorem exq_now (h1 : rqAll l used = true) (h2 : q = fin) : exq P l fin n q used = true := by
 cases n with
 | zero => simp [exq, h1, h2]
 | succ n => simp [exq, h1, h2]
theorem exq_go {i : Nat} (hi : i < l.length) (h1 : rqNext l used i = true) (h2 : rqFit P q (l.getD i RQ0) = true) (h3 : exq P l fin n (rqAft P q (l.getD i RQ0)) (used.set i true) = true) : exq P l fin (n + 1) q used = true := by
 unfold exq
 rw [Bool.or_eq_true]
 right
 rw [List.any_eq_true]
 exact ⟨i, by simpa using hi, by simp only [Bool.and_eq_true]; exact ⟨⟨h1, h2⟩, h3⟩⟩
/-- An order of calls explains them. -/
theorem exq_of (ord : List Nat) (V : Nat → List Int) (hnd : ord.Nodup) (hm : ∀ i ∈ ord, i < l.length) (hV : V ord.length = fin)
 (hs : ∀ p i, ord[p]? = some i → rqFit P (V p) (l.getD i RQ0) = true ∧ V (p + 1) = rqAft P (V p) (l.getD i RQ0))
 (hr : ∀ p i k, ord[p]? = some i → k < l.length → rqBef (l.getD k RQ0) (l.getD i RQ0) = true → k ∈ ord.take p)
 (ha : ∀ k, k < l.length → (l.getD k RQ0).ended = true → k ∈ ord) :
 ∀ d p, p + d = ord.length → ∀ m, d ≤ m → exq P l fin m (V p) ((List.range l.length).map fun i => decide (i ∈ ord.take p)) = true := by
 intro d
 induction d with
 | zero =>
  intro p hp m _
  have hp' : p = ord.length := by omega
  subst hp'
  refine exq_now ?_ hV
  unfold rqAll
  rw [List.all_eq_true]
  intro i hi
  have hi' : i < l.length := by simpa using hi
  cases he : (l.getD i RQ0).ended with
  | false => simp
  | true =>
   have := ha i hi' he
   simp [List.getD_eq_getElem?_getD, hi', this]
 | succ d ih =>
  intro p hp m hm'
  obtain ⟨m', rfl⟩ : ∃ m', m = m' + 1 := ⟨m - 1, by omega⟩
  have hpl : p < ord.length := by omega
  have hg : ord[p]? = some ord[p] := List.getElem?_eq_getElem hpl
  obtain ⟨i, hi⟩ : ∃ i, ord[p] = i := ⟨_, rfl⟩
  rw [hi] at hg
  have hil : i < l.length := hm i (List.mem_of_getElem? hg)
  obtain ⟨f1, f2⟩ := hs p i hg
  have hnot : i ∉ ord.take p := by
   intro hx
   obtain ⟨q, hq⟩ := List.getElem?_of_mem hx
   have hql : q < p := by have := (List.getElem?_eq_some_iff.1 hq).1; simp at this; omega
   rw [List.getElem?_take, if_pos hql] at hq
   have h1 := (List.getElem?_eq_some_iff.1 hq)
   obtain ⟨h1, h2⟩ := h1
   have := (List.getElem_inj hnd (i := q) (j := p) (h₀ := h1) (h₁ := hpl)).1 (by rw [h2, hi])
   omega
  refine exq_go hil ?_ f1 ?_
  · unfold rqNext
    rw [Bool.and_eq_true]
    refine ⟨by simp [List.getD_eq_getElem?_getD, hil, hnot], ?_⟩
    rw [List.all_eq_true]
    intro k hk
    have hk' : k < l.length := by simpa using hk
    by_cases hb : rqBef (l.getD k RQ0) (l.getD i RQ0) = true
    · have := hr p i k hg hk' hb
      simp [List.getD_eq_getElem?_getD, hk', this]
    · simp only [Bool.not_eq_true] at hb
      rw [hb]; simp
  · rw [← f2]
    have e : ((List.range l.length).map fun i => decide (i ∈ ord.take p)).set i true = (List.range l.length).map fun i => decide (i ∈ ord.take (p + 1)) := by
     apply List.ext_getElem
     · simp
     · intro j h1 h2
       have hjl : j < l.length := by simpa using h2
       have et : ord.take (p + 1) = ord.take p ++ [i] := by rw [List.take_add_one, hg]; rfl
       rw [List.getElem_set]
       simp only [et, List.getElem_map, List.getElem_range]
       by_cases hij : i = j
       · subst hij; simp
       · rw [if_neg hij]; simp [show ¬ j = i from fun h => hij h.symm]
    rw [e]
    exact ih (p + 1) (by omega) m' (by omega)
theorem exq_all (ord : List Nat) (V : Nat → List Int) (hnd : ord.Nodup) (hm : ∀ i ∈ ord, i < l.length) (hV : V ord.length = fin)
 (hs : ∀ p i, ord[p]? = some i → rqFit P (V p) (l.getD i RQ0) = true ∧ V (p + 1) = rqAft P (V p) (l.getD i RQ0))
 (hr : ∀ p i k, ord[p]? = some i → k < l.length → rqBef (l.getD k RQ0) (l.getD i RQ0) = true → k ∈ ord.take p)
 (ha : ∀ k, k < l.length → (l.getD k RQ0).ended = true → k ∈ ord) : exq P l fin l.length (V 0) (List.replicate l.length false) = true := by
 have hlen : ord.length ≤ l.length := by
  have := List.Nodup.length_le_of_subset hnd (l₂ := List.range l.length) (fun i hi => by simpa using hm i hi)
  simpa using this
 have := exq_of (P := P) ord V hnd hm hV hs hr ha ord.length 0 (by omega) l.length hlen
 have e : (List.range l.length).map (fun i => decide (i ∈ ord.take 0)) = List.replicate l.length false := by
  apply List.ext_getElem <;> simp
 rw [e] at this
 exact this
end
/-- What is told of a call. -/
def rqOf (m : QM) : RQ := match m.ph with
 | .fin v e => ⟨m.ins, m.val, m.bg, m.en, true, v, e⟩
 | _ => ⟨m.ins, m.val, m.bg, m.en, false, 0, 0⟩
theorem rqOf_get {ms : List QM} {i : Nat} {m : QM} (hi : ms[i]? = some m) : (ms.map rqOf).getD i RQ0 = rqOf m := by
 rw [List.getD_eq_getElem?_getD, List.getElem?_map, hi]; rfl
theorem rqOf_same (m : QM) : (rqOf m).put = m.ins ∧ (rqOf m).val = m.val ∧ (rqOf m).bg = m.bg ∧ (rqOf m).en = m.en ∧ (rqOf m).ended = m.ph.over := by
 unfold rqOf
 cases m.ph <;> exact ⟨rfl, rfl, rfl, rfl, rfl⟩
section
variable {W P n N T : Nat} {q0 : List Int} {σ σ' : PwS} {ms : List QM} {L L' : Nat → Int} {ord : List Nat} {i j a s f c : Nat} {m m' m2 : QM} {sum : List Int → Int} {at0 : Nat → Int} {cnt : Nat} {xs xs' : List Int} {st lv : Nat → Bool} {M : Nat → Prop}
/-- The calls that have ended are explained by the order in which they took effect. -/
theorem QLs.explains (h : QLs W P q0 σ ms T L ord) : exq P (ms.map rqOf) (qSt P ms q0 ord) (ms.map rqOf).length q0 (List.replicate (ms.map rqOf).length false) = true := by
 have h0 : q0 = (fun p => qSt P ms q0 (ord.take p)) 0 := rfl
 obtain ⟨V, hV⟩ : ∃ V : Nat → List Int, V = fun p => qSt P ms q0 (ord.take p) := ⟨_, rfl⟩
 have hgoal : exq P (ms.map rqOf) (qSt P ms q0 ord) (ms.map rqOf).length (V 0) (List.replicate (ms.map rqOf).length false) = true := by
  refine exq_all ord V h.nd (fun i hi => by rw [List.length_map]; exact h.mem i hi) (by rw [hV]; simp) (fun p i hp => ?_) (fun p i k hp hk hb => ?_) (fun k hk he => ?_)
  · have hil : i < ms.length := h.mem i (List.mem_of_getElem? hp)
    have hi : ms[i]? = some ms[i] := List.getElem?_eq_getElem hil
    have hok := h.ok i _ hi
    have hr := hok.res p hp
    rw [rqOf_get hi]
    obtain ⟨s1, s2, _, _, s5⟩ := rqOf_same ms[i]
    have hts : ord.take (p + 1) = ord.take p ++ [i] := by
     obtain ⟨l1, e1⟩ := List.getElem?_eq_some_iff.1 hp
     rw [List.take_succ_eq_append_getElem l1, e1]
    constructor
    · unfold rqFit
      rw [s1, s2, hV]
      cases hph : ms[i].ph with
      | fin v e =>
       have ho : ms[i].out P σ = some (v, e) := by unfold QM.out; rw [hph]
       rw [ho] at hr
       injection hr with hr
       have e1 : (rqOf ms[i]).got = v ∧ (rqOf ms[i]).err = e := by unfold rqOf; rw [hph]; exact ⟨rfl, rfl⟩
       rw [e1.1, e1.2, ← hr]
       simp
      | start => rw [s5, hph]; rfl
      | rd s f c r => rw [s5, hph]; rfl
      | chg f c v a => rw [s5, hph]; rfl
    · unfold rqAft
      rw [s1, s2, hV]
      dsimp only
      rw [hts, qSt_snoc, getD_of hi]
  · have hil : i < ms.length := h.mem i (List.mem_of_getElem? hp)
    rw [List.length_map] at hk
    have hi : ms[i]? = some ms[i] := List.getElem?_eq_getElem hil
    have hk' : ms[k]? = some ms[k] := List.getElem?_eq_getElem hk
    rw [rqOf_get hi, rqOf_get hk'] at hb
    obtain ⟨_, _, b1, _, _⟩ := rqOf_same ms[i]
    obtain ⟨_, _, _, b2, b3⟩ := rqOf_same ms[k]
    unfold rqBef at hb
    rw [b1, b2, b3, Bool.and_eq_true, decide_eq_true_eq] at hb
    exact h.rt p i k _ _ hp hi hk' hb.1 (by omega)
  · rw [List.length_map] at hk
    have hk' : ms[k]? = some ms[k] := List.getElem?_eq_getElem hk
    rw [rqOf_get hk'] at he
    obtain ⟨_, _, _, _, b3⟩ := rqOf_same ms[k]
    exact (h.ok k _ hk').io.2 (over_out (by rw [← b3]; exact he))
 rw [hV] at hgoal
 exact hgoal
/-- No call is in progress: the words are those of the values. -/
theorem QLs.quiet (h : QLs W P q0 σ ms T L ord) (hd : ∀ (i : Nat) (m : QM), ms[i]? = some m → m.ph.over = true) : σ.cur = none := by
 cases hc : σ.cur with
 | none => rfl
 | some c =>
  obtain ⟨i, m, f, k, v, g1, g2⟩ := h.cur c hc
  have := hd i m g1
  rw [g2] at this
  cases this
theorem QLs.start (hab : ∃ f, QAb W P L f q0) (hc : σ.cur = none) : QLs W P q0 σ [] T L [] :=
 ⟨hab, by simp, fun i hi => (by simp at hi), fun i m hi => (by simp at hi), fun i j mi mj fi ci vi fj cj vj a hi => (by simp at hi), fun c hcc => (by rw [hc] at hcc; cases hcc), fun i m hi => (by simp at hi), fun p i k mi mk hp => (by simp at hp)⟩
/-- A new call. -/
theorem QSb.add (B : QSb σ ms) (hf : m.ph = .start) (hth : m.th = 0 ∨ m.th = 1 ∨ m.th = 2 ∨ m.th = 5) (hnew : ∀ (j : Nat) (mj : QM), ms[j]? = some mj → mj.ph.over = false → mj.th ≠ m.th) : QSb σ (ms ++ [m]) := by
 have get : ∀ (j : Nat) (mj : QM), (ms ++ [m])[j]? = some mj → (j = ms.length ∧ mj = m) ∨ (j < ms.length ∧ ms[j]? = some mj) := by
  intro j mj hj
  by_cases hl : j < ms.length
  · rw [List.getElem?_append_left hl] at hj; exact .inr ⟨hl, hj⟩
  · rw [List.getElem?_append_right (by omega)] at hj
    have h0 : j - ms.length = 0 := by
     have := (List.getElem?_eq_some_iff.1 hj).1
     simp at this; omega
    rw [h0] at hj
    simp at hj
    exact .inl ⟨by omega, hj.symm⟩
 have hch : isChg m = none := by unfold isChg; rw [hf]
 have hold : ∀ (j : Nat) (mj : QM) (a : Nat), (ms ++ [m])[j]? = some mj → isChg mj = some a → ms[j]? = some mj := fun j mj a hj ha => by
  rcases get j mj hj with ⟨_, rfl⟩ | ⟨_, hj'⟩
  · rw [hch] at ha; cases ha
  · exact hj'
 have hinc : ∀ (j : Nat) (mj : QM), ms[j]? = some mj → (ms ++ [m])[j]? = some mj := fun j mj hj => by rw [List.getElem?_append_left (List.getElem?_eq_some_iff.1 hj).1]; exact hj
 refine ⟨⟨fun j mj hj ho => ?_, fun j k mj mk hj hk oj ok ht => ?_⟩, fun j mj s f c r hj hp => ?_, fun j mj f c v a hj hp => B.ch j mj f c v a (hold j mj a hj (isChg_of hp)) hp, B.len, fun k hk => ?_, fun j k mj mk a a' o o' hj hk ha ha' => B.un j k mj mk a a' o o' (hold j mj a hj ha) (hold k mk a' hk ha') ha ha'⟩
 · rcases get j mj hj with ⟨_, rfl⟩ | ⟨_, hj'⟩
   · exact hth
   · exact B.th.in_ j mj hj' ho
 · rcases get j mj hj with ⟨e1, rfl⟩ | ⟨_, hj'⟩
   · rcases get k mk hk with ⟨e2, _⟩ | ⟨_, hk'⟩
     · rw [e1, e2]
     · exact absurd ht.symm (hnew k mk hk' ok)
   · rcases get k mk hk with ⟨e2, rfl⟩ | ⟨_, hk'⟩
     · exact absurd ht (hnew j mj hj' oj)
     · exact B.th.one j k mj mk hj' hk' oj ok ht
 · rcases get j mj hj with ⟨_, rfl⟩ | ⟨_, hj'⟩
   · rw [hf] at hp; cases hp
   · exact B.rd j mj s f c r hj' hp
 · rw [B.bt k hk]
   constructor
   · rintro ⟨j, mj, a, o, e1, e2, e3, e4⟩; exact ⟨j, mj, a, o, hinc j mj e1, e2, e3, e4⟩
   · rintro ⟨j, mj, a, o, e1, e2, e3, e4⟩; exact ⟨j, mj, a, o, hold j mj a e1 e2, e2, e3, e4⟩
theorem QW.add (h : QW sum at0 n W P q0 σ ms N T xs L ord) (hf : m.ph = .start) (hv : 0 ≤ m.val ∧ m.val < 1099511627776) (hth : m.th = 0 ∨ m.th = 1 ∨ m.th = 2 ∨ m.th = 5) (hnew : ∀ (j : Nat) (mj : QM), ms[j]? = some mj → mj.ph.over = false → mj.th ≠ m.th) :
 QW sum at0 n W P q0 σ (ms ++ [m]) N T xs L ord := ⟨h.inv, h.ls.add hf hv, h.sb.add hf hth hnew⟩
theorem QW.later (h : QW sum at0 n W P q0 σ ms N T xs L ord) {T' : Nat} (hT : T ≤ T') : QW sum at0 n W P q0 σ ms N T' xs L ord := ⟨h.inv, h.ls.later hT, h.sb⟩
theorem phi_add (hf : m.ph = .start) : phi st lv W P σ L (ms ++ [m]) = phi st lv W P σ L ms + ((if st ms.length then 911 else 0) + if lv ms.length then 3648 else 0) := by
 unfold phi
 rw [sumF_app, Nat.zero_add]
 congr 1
 have e1 : gM σ m = 0 := by unfold gM isChg; rw [hf]
 have e2 : wM m = 911 := by unfold wM; rw [hf]
 have e3 : stM W P L σ m = 0 := by unfold stM; rw [hf]
 have e4 : lvM P σ m = 1 := by unfold lvM QM.out; rw [hf]; rfl
 unfold tM
 rw [e1, e2, e3, e4, Nat.zero_add]
/-- What a call that is not over has left to do. -/
theorem tM_pos (hov : m.ph.over = false) (hst : st i = true) (hI : Inv sum at0 n cnt M N σ xs L) (hch : ∀ f c v a, m.ph = .chg f c v a → ∃ o, σ.ops a = some o ∧ o.ended = false) : 1 ≤ tM st lv W P σ L i m := by
 unfold tM
 rw [hst, if_pos rfl]
 cases hp : m.ph with
 | fin v e => rw [hp] at hov; cases hov
 | start =>
  have e2 : wM m = 911 := by unfold wM; rw [hp]
  omega
 | rd s f c r =>
  have e2 : wM m = 900 + 4 * (3 - s) + (3 - r.place) := by unfold wM; rw [hp]
  omega
 | chg f c v a =>
  obtain ⟨o, h1, h2⟩ := hch f c v a hp
  have : 1 ≤ gM σ m := by
   unfold gM
   rw [isChg_of hp]
   show 1 ≤ gAq σ a
   unfold gAq
   rw [h1]
   show 1 ≤ gOq (curO σ) a o
   cases curO σ with
   | none => simp only [gOq, h2, Bool.false_eq_true, if_false]; omega
   | some p => obtain ⟨c, oc⟩ := p; simp only [gOq, h2, Bool.false_eq_true, if_false]; omega
  omega
end
/-- The calls of a run: put, value, thread. -/
def lfOf (cs : List (Bool × Int × Nat)) (t : Nat) : List (Bool × Int) := (cs.filter fun c => c.2.2 == t).map fun c => (c.1, c.2.1)
def inTh (ms : List QM) (t : Nat) : List (Bool × Int) := (ms.filter fun m => m.th == t).map fun m => (m.ins, m.val)
/-- Where the threads of a run are: lf t are the calls that thread t has not begun, now t its last call. -/
structure QRn (cs : List (Bool × Int × Nat)) (lf : Nat → List (Bool × Int)) (now : Nat → Option Nat) (ms : List QM) : Prop where
 thr : ∀ (i : Nat) (m : QM), ms[i]? = some m → m.th < 3 ∧ m.ph.fresh = false
 seq : ∀ t, t < 3 → inTh ms t ++ lf t = lfOf cs t
 nw : ∀ t i, now t = some i → ∃ m, ms[i]? = some m ∧ m.th = t
 lst : ∀ (j : Nat) (m : QM), ms[j]? = some m → ∃ i, now m.th = some i ∧ j ≤ i ∧ (j ≠ i → m.ph.over = true)
 ord : ∀ (i j : Nat) (mi mj : QM), i < j → ms[i]? = some mi → ms[j]? = some mj → mi.th = mj.th → mi.ph.over = true ∧ mi.en < mj.bg
section
variable {cs : List (Bool × Int × Nat)} {lf : Nat → List (Bool × Int)} {now : Nat → Option Nat} {ms : List QM} {i t : Nat} {m m' : QM}
theorem QRn.start (cs : List (Bool × Int × Nat)) : QRn cs (lfOf cs) (fun _ => none) [] :=
 ⟨fun i m h => by simp at h, fun t _ => by simp [inTh], fun t i h => (by cases h), fun j m h => by simp at h, fun i j mi mj _ h => by simp at h⟩
theorem inTh_set (ms : List QM) (i t : Nat) {m m' : QM} (hi : ms[i]? = some m) (h1 : m'.ins = m.ins) (h2 : m'.val = m.val) (h3 : m'.th = m.th) : inTh (ms.set i m') t = inTh ms t := by
 induction ms generalizing i with
 | nil => simp at hi
 | cons x ms ih =>
  cases i with
  | zero =>
   simp at hi
   subst hi
   simp only [List.set_cons_zero, inTh, List.filter_cons, h3]
   split
   · simp [h1, h2]
   · rfl
  | succ i =>
   have := ih i (by simpa using hi)
   simp only [List.set_cons_succ]
   unfold inTh at this ⊢
   simp only [List.filter_cons]
   split
   · simp only [List.map_cons, this]
   · exact this
theorem inTh_app (ms : List QM) (m : QM) (t : Nat) : inTh (ms ++ [m]) t = inTh ms t ++ if m.th = t then [(m.ins, m.val)] else [] := by
 unfold inTh
 rw [List.filter_append, List.map_append]
 congr 1
 by_cases h : m.th = t
 · simp [h]
 · simp [h]
/-- The last call of a thread goes on. -/
theorem QRn.again (h : QRn cs lf now ms) (hi : ms[i]? = some m) (hov : m.ph.over = false) (h1 : m'.ins = m.ins) (h2 : m'.val = m.val) (h3 : m'.th = m.th) (h4 : m'.bg = m.bg) (h5 : m'.ph.fresh = false) : QRn cs lf now (ms.set i m') := by
 have key : ∀ (j : Nat) (mj : QM), (ms.set i m')[j]? = some mj → (j = i ∧ mj = m') ∨ (j ≠ i ∧ ms[j]? = some mj) := fun j mj hj => qget_cases hi hj
 refine ⟨fun j mj hj => ?_, fun t ht => by rw [inTh_set ms i t hi h1 h2 h3]; exact h.seq t ht, fun t j hj => ?_, fun j mj hj => ?_, fun j k mj mk hjk hj hk he => ?_⟩
 · rcases key j mj hj with ⟨_, e⟩ | ⟨_, e⟩
   · rw [e, h3]; exact ⟨(h.thr i m hi).1, h5⟩
   · exact h.thr j mj e
 · obtain ⟨mj, e1, e2⟩ := h.nw t j hj
   by_cases hji : j = i
   · subst hji
     rw [hi] at e1
     injection e1 with e1
     exact ⟨m', List.getElem?_set_self (List.getElem?_eq_some_iff.1 hi).1, by rw [h3, e1]; exact e2⟩
   · exact ⟨mj, by rw [List.getElem?_set_ne (Ne.symm hji)]; exact e1, e2⟩
 · rcases key j mj hj with ⟨e1, e2⟩ | ⟨_, e⟩
   · rw [e2, h3]
     obtain ⟨k, g1, g2, g3⟩ := h.lst i m hi
     refine ⟨k, g1, by rw [e1]; exact g2, fun hne => ?_⟩
     rw [e1] at hne
     have := g3 hne
     rw [hov] at this; cases this
   · exact h.lst j mj e
 · rcases key j mj hj with ⟨e1, e2⟩ | ⟨_, e⟩
   · rcases key k mk hk with ⟨f1, f2⟩ | ⟨_, f⟩
     · omega
     · have := (h.ord i k m mk (by omega) hi f (by rw [← he, e2, h3])).1
       rw [hov] at this; cases this
   · rcases key k mk hk with ⟨f1, f2⟩ | ⟨_, f⟩
     · have := h.ord j i mj m (by omega) e hi (by rw [he, f2, h3])
       rw [f2, h4]; exact this
     · exact h.ord j k mj mk hjk e f he
/-- A thread begins its next call. -/
theorem QRn.new (h : QRn cs lf now ms) (ht : t < 3) {c : Bool × Int} {rest : List (Bool × Int)} (hl : lf t = c :: rest) (hd : ∀ i m, now t = some i → ms[i]? = some m → m.ph.over = true) (h1 : m'.ins = c.1) (h2 : m'.val = c.2) (h3 : m'.th = t) (h5 : m'.ph.fresh = false)
 (hT : ∀ (k : Nat) (mk : QM), ms[k]? = some mk → mk.ph.over = true → mk.en < m'.bg) : QRn cs (fun s => if s = t then rest else lf s) (fun s => if s = t then some ms.length else now s) (ms ++ [m']) := by
 have hovr : ∀ (j : Nat) (mj : QM), ms[j]? = some mj → mj.th = t → mj.ph.over = true := fun j mj hj he => by
  obtain ⟨k, g1, g2, g3⟩ := h.lst j mj hj
  by_cases hjk : j = k
  · rw [he] at g1
    exact hd k mj g1 (by rw [← hjk]; exact hj)
  · exact g3 hjk
 have key : ∀ (j : Nat) (mj : QM), (ms ++ [m'])[j]? = some mj → (j < ms.length ∧ ms[j]? = some mj) ∨ (j = ms.length ∧ mj = m') := fun j mj hj => by
  by_cases hjl : j < ms.length
  · rw [List.getElem?_append_left hjl] at hj; exact .inl ⟨hjl, hj⟩
  · rw [List.getElem?_append_right (by omega)] at hj
    have hl2 := (List.getElem?_eq_some_iff.1 hj).1
    have e : j = ms.length := by simp at hl2; omega
    subst e
    simp at hj
    exact .inr ⟨rfl, hj.symm⟩
 have old : ∀ {j : Nat} {mj : QM}, ms[j]? = some mj → (ms ++ [m'])[j]? = some mj := fun {j mj} hj => by
  rw [List.getElem?_append_left (List.getElem?_eq_some_iff.1 hj).1]; exact hj
 refine ⟨fun j mj hj => ?_, fun s hs => ?_, fun s j hj => ?_, fun j mj hj => ?_, fun j k mj mk hjk hj hk he => ?_⟩
 · rcases key j mj hj with ⟨_, e⟩ | ⟨_, e⟩
   · exact h.thr j mj e
   · rw [e, h3]; exact ⟨ht, h5⟩
 · rw [inTh_app, h3]
   have hq := h.seq s hs
   by_cases hst : s = t
   · subst hst
     rw [hl] at hq
     simp only [if_true, h1, h2]
     rw [← hq]; simp
   · simp only [if_neg hst, if_neg (Ne.symm hst), List.append_nil]
     exact hq
 · have hj : (if s = t then some ms.length else now s) = some j := hj
   by_cases hst : s = t
   · rw [if_pos hst] at hj
     injection hj with hj
     exact ⟨m', by rw [← hj]; simp, by rw [h3, hst]⟩
   · rw [if_neg hst] at hj
     obtain ⟨mj, e1, e2⟩ := h.nw s j hj
     exact ⟨mj, old e1, e2⟩
 · rcases key j mj hj with ⟨g, e⟩ | ⟨g, e⟩
   · by_cases hst : mj.th = t
     · exact ⟨ms.length, if_pos hst, by omega, fun _ => hovr j mj e hst⟩
     · obtain ⟨k, g1, g2, g3⟩ := h.lst j mj e
       exact ⟨k, (if_neg hst).trans g1, g2, g3⟩
   · exact ⟨ms.length, by rw [e]; exact if_pos h3, by omega, fun hne => absurd g hne⟩
 · rcases key j mj hj with ⟨g, e⟩ | ⟨g, e⟩
   · rcases key k mk hk with ⟨g2, f⟩ | ⟨g2, f⟩
     · exact h.ord j k mj mk hjk e f he
     · have ho := hovr j mj e (by rw [he, f]; exact h3)
       exact ⟨ho, by rw [f]; exact hT j mj e ho⟩
   · rcases key k mk hk with ⟨g2, f⟩ | ⟨g2, f⟩
     · omega
     · omega
/-- All threads have ended. -/
theorem QRn.all (h : QRn cs lf now ms) (hd : ∀ t i m, t < 3 → now t = some i → ms[i]? = some m → m.ph.over = true) : ∀ (i : Nat) (m : QM), ms[i]? = some m → m.ph.over = true := by
 intro i m hi
 obtain ⟨k, g1, g2, g3⟩ := h.lst i m hi
 by_cases hik : i = k
 · subst hik
   exact hd m.th i m (h.thr i m hi).1 g1 hi
 · exact g3 hik
end
/-- A run of which all calls are over. -/
def RunOk (P : Nat) (vs : List Int) (cs : List (Bool × Int × Nat)) (ms : List QM) (ord : List Nat) : Prop :=
 ∃ (σ : PwS) (T : Nat) (L : Nat → Int) (lf : Nat → List (Bool × Int)) (now : Nat → Option Nat), QLs 256 P vs σ ms T L ord ∧ QRn cs lf now ms ∧ (∀ s, s < 3 → lf s = []) ∧ (∀ (i : Nat) (m : QM), ms[i]? = some m → m.ph.over = true) ∧ T < 1000000
section
variable {P W T t : Nat} {vs q0 : List Int} {cs : List (Bool × Int × Nat)} {ms : List QM} {ord : List Nat} {σ : PwS} {L : Nat → Int}
theorem over_fin {m : QM} (h : m.ph.over = true) : ∃ v e, m.ph = .fin v e := by
 cases hp : m.ph with
 | fin v e => exact ⟨v, e, rfl⟩
 | start => rw [hp] at h; cases h
 | rd s f c r => rw [hp] at h; cases h
 | chg f c v a => rw [hp] at h; cases h
theorem QLs.perm (h : QLs W P q0 σ ms T L ord) (hall : ∀ (i : Nat) (m : QM), ms[i]? = some m → m.ph.over = true) : ord.Perm (List.range ms.length) := by
 rw [List.perm_ext_iff_of_nodup h.nd List.nodup_range]
 intro i
 rw [List.mem_range]
 refine ⟨h.mem i, fun hi => ?_⟩
 have hg : ms[i]? = some ms[i] := List.getElem?_eq_getElem hi
 exact (h.ok i _ hg).io.2 (over_out (hall i _ hg))
/-- What a call of a run has returned. -/
theorem QLs.fin (h : QLs W P q0 σ ms T L ord) (hall : ∀ (i : Nat) (m : QM), ms[i]? = some m → m.ph.over = true) {p i : Nat} {m : QM} (hp : ord[p]? = some i) (hi : ms[i]? = some m) :
 m.ph = .fin (qApp P (qSt P ms q0 (ord.take p)) m.ins m.val).2.1 (qApp P (qSt P ms q0 (ord.take p)) m.ins m.val).2.2 := by
 obtain ⟨v, e, hf⟩ := over_fin (hall i m hi)
 have hr := (h.ok i m hi).res p hp
 have ho : m.out P σ = some (v, e) := by unfold QM.out; rw [hf]
 rw [ho] at hr
 injection hr with hr
 rw [hf, ← hr]
/-- Calls one after the other take effect in that order. -/
theorem QLs.seq (h : QLs W P q0 σ ms T L ord) (hall : ∀ (i : Nat) (m : QM), ms[i]? = some m → m.ph.over = true) (hs : ∀ (i j : Nat) (mi mj : QM), i < j → ms[i]? = some mi → ms[j]? = some mj → mi.en < mj.bg) : ord = List.range ms.length := by
 have hp := h.perm hall
 refine List.Perm.eq_of_pairwise (le := fun a b => a < b) (fun a b _ _ h1 h2 => by omega) ?_ List.pairwise_lt_range hp
 rw [List.pairwise_iff_getElem]
 intro p p' h1 h2 hpp
 have g1 : ord[p]? = some ord[p] := List.getElem?_eq_getElem h1
 have g2 : ord[p']? = some ord[p'] := List.getElem?_eq_getElem h2
 have l1 := h.mem _ (List.getElem_mem h1)
 have l2 := h.mem _ (List.getElem_mem h2)
 have hne : ord[p] ≠ ord[p'] := fun he => by
  have := (List.getElem_inj h.nd (i := p) (j := p') (h₀ := h1) (h₁ := h2)).1 he
  omega
 rcases Nat.lt_or_gt_of_ne hne with hlt | hgt
 · exact hlt
 · exfalso
   have hk : ms[ord[p']]? = some (ms[ord[p']]'l2) := List.getElem?_eq_getElem l2
   have hi : ms[ord[p]]? = some (ms[ord[p]]'l1) := List.getElem?_eq_getElem l1
   have := h.rt p _ _ _ _ g1 hi hk (hall _ _ hk) (hs _ _ _ _ hgt hk hi)
   obtain ⟨r, hr⟩ := List.getElem?_of_mem this
   have hrl : r < p := by have := (List.getElem?_eq_some_iff.1 hr).1; simp at this; omega
   rw [List.getElem?_take, if_pos hrl] at hr
   obtain ⟨r1, r2⟩ := List.getElem?_eq_some_iff.1 hr
   have := (List.getElem_inj h.nd (i := r) (j := p') (h₀ := r1) (h₁ := h2)).1 r2
   omega
/-- All calls of one thread. -/
theorem RunOk.solo (h : RunOk P vs cs ms ord) (ht : t < 3) (hc : ∀ c ∈ cs, c.2.2 = t) : ms.map (fun m => (m.ins, m.val)) = cs.map (fun c => (c.1, c.2.1)) ∧ ord = List.range ms.length := by
 obtain ⟨σ, T, L, lf, now, h1, h2, h3, h4, h5⟩ := h
 have hth : ∀ m ∈ ms, m.th = t := fun m hm => by
  obtain ⟨i, hi⟩ := List.mem_iff_getElem?.1 hm
  have hl := (h2.thr i m hi).1
  by_cases he : m.th = t
  · exact he
  · exfalso
    have hs := h2.seq m.th hl
    rw [h3 _ hl, List.append_nil] at hs
    have e1 : lfOf cs m.th = [] := by
     unfold lfOf
     rw [List.filter_eq_nil_iff.2 (fun c hcm => by rw [hc c hcm]; simp; exact fun hx => he hx.symm)]
     rfl
    rw [e1] at hs
    have e2 : (m.ins, m.val) ∈ inTh ms m.th := List.mem_map.2 ⟨m, List.mem_filter.2 ⟨hm, by simp⟩, rfl⟩
    rw [hs] at e2
    cases e2
 constructor
 · have hs := h2.seq t ht
   rw [h3 _ ht, List.append_nil] at hs
   have e1 : inTh ms t = ms.map (fun m => (m.ins, m.val)) := by
    unfold inTh
    rw [List.filter_eq_self.2 (fun m hm => by simp [hth m hm])]
   have e2 : lfOf cs t = cs.map (fun c => (c.1, c.2.1)) := by
    unfold lfOf
    rw [List.filter_eq_self.2 (fun c hcm => by simp [hc c hcm])]
   rw [← e1, ← e2, hs]
 · refine h1.seq h4 (fun i j mi mj hij hi hj => ?_)
   exact (h2.ord i j mi mj hij hi hj (by rw [hth mi (List.mem_of_getElem? hi), hth mj (List.mem_of_getElem? hj)])).2
/-- One call. -/
theorem RunOk.one {c : Bool × Int × Nat} (h : RunOk P vs [c] ms ord) (ht : c.2.2 < 3) : ∃ m, ms = [m] ∧ m.ins = c.1 ∧ m.val = c.2.1 ∧ qSt P ms vs ord = (qApp P vs c.1 c.2.1).1 ∧ m.ph = .fin (qApp P vs c.1 c.2.1).2.1 (qApp P vs c.1 c.2.1).2.2 := by
 obtain ⟨h1, h2⟩ := h.solo ht (fun x hx => by rw [List.mem_singleton.1 hx])
 obtain ⟨σ, T, L, lf, now, g1, _, _, g4, _⟩ := h
 have hl : ms.length = 1 := by have := congrArg List.length h1; simpa using this
 obtain ⟨m, rfl⟩ := List.length_eq_one_iff.1 hl
 simp only [List.map_cons, List.map_nil, List.cons.injEq, and_true, Prod.mk.injEq] at h1
 have hf := g1.fin g4 (p := 0) (i := 0) (m := m) (by rw [h2]; rfl) rfl
 have e : qSt P [m] vs (ord.take 0) = vs := rfl
 rw [e, h1.1, h1.2] at hf
 refine ⟨m, rfl, h1.1, h1.2, ?_, hf⟩
 rw [h2]
 show (qApp P vs m.ins m.val).1 = _
 rw [h1.1, h1.2]
end
end Go.Proofs.YtaefkelaffijbaaGreatDoor
