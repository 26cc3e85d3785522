/- The machine of mwcas as plain data (merged). -/
import Derived.Test.YtaefkelaffijbaaGreatDoorKfb
namespace Go.Proofs.YtaefkelaffijbaaGreatDoor
open Go.RowKit
set_option linter.unusedVariables false
set_option linter.unusedSimpArgs false
/-- An entry. -/
structure Ent where
 off : Int
 old : Int
 new : Int
 ex : Bool
def Ent.sat (e : Ent) (raw : Int) : Bool := if e.ex then raw == e.old else raw % 1099511627776 == e.old
def Ent.after (e : Ent) (raw : Int) : Int := e.new + ((raw / 1099511627776 + 1) % 4194304) * 1099511627776
/-- An operation; others are named by the blocks in which they lie. -/
structure OpS where
 k : Nat
 th : Nat
 es : List Ent
 order : List Nat
 seen : List Int
 loaded : Nat
 stage : Nat
 prog : List Ins
 done : Bool
 changed : Bool
 ended : Bool
 err : Int
 tgt : Option Nat
 inn : Nat
 next : Nat
/-- A pool: its device, the descriptors in use, the operation that is executed now, and the operations. -/
structure PwS where
 dev : DevS
 busy : List Bool
 cur : Option Nat
 ops : Nat → Option OpS
def PwS.setOp (σ : PwS) (a : Nat) (o : OpS) : PwS := { σ with ops := fun b => if b = a then some o else σ.ops b }
/-- The words of the entries as a descriptor has them. -/
def entW (sum : List Int → Int) (es : List Ent) (seen : List Int) : List Int := (es.zip seen).flatMap fun p => [if p.1.ex then p.1.off + 1 else p.1.off, p.1.old, p.1.after p.2]
def chgW (es : List Ent) (seen : List Int) : List (Int × Int) := (es.zip seen).map fun p => (p.1.off, p.1.after p.2)
def recW (at0 : Int) (ws : List Int) : List (Int × Int) := ws.zipIdx.map fun p => (at0 + 64 + 8 * (p.2 : Int), p.1)
def unusedW : Int := 1836515329
def succW (sum : List Int → Int) (ws : List Int) : Int := 3 + (ws.length / 3 : Nat) * 256 + 1836515328 + sum ws * 4294967296
section
variable (sum : List Int → Int) (at0 : Nat → Int)
/-- The program of a stage. -/
def OpS.progOf (o : OpS) (s : Nat) : List Ins :=
 if s = 1 then storesX (recW (at0 o.k) (entW sum o.es o.seen))
 else if s = 2 then storesX [(at0 o.k, succW sum (entW sum o.es o.seen))]
 else if s = 3 then storesX (chgW o.es o.seen)
 else storesX [(at0 o.k, unusedW)]
def PwS.fin (σ : PwS) (c : Nat) (o : OpS) (ch : Bool) : PwS := { σ.setOp c { o with done := true, changed := ch } with cur := none }
def PwS.enter (σ : PwS) (c : Nat) (o : OpS) (s : Nat) : PwS :=
 if s ≤ 4 then σ.setOp c { o with stage := s, prog := o.progOf sum at0 s } else σ.fin c { o with stage := s } true
/-- The next word of operation c is loaded by thread i. -/
def PwS.load (σ : PwS) (c : Nat) (o : OpS) (i : Nat) : PwS :=
 let q := o.order.getD o.loaded 0
 let off := (o.es.getD q ⟨0, 0, 0, false⟩).off
 let raw := σ.dev.load off
 let σ1 : PwS := { σ with dev := σ.dev.on i (σ.dev.wordB off) }
 if (σ1.dev.thr i).err ≠ 0 then σ1
 else if (o.es.getD q ⟨0, 0, 0, false⟩).sat raw then
  let o1 := { o with seen := o.seen.set q raw, loaded := o.loaded + 1 }
  if o1.loaded = o.order.length then (σ1.setOp c o1).enter sum at0 c o1 1 else σ1.setOp c o1
 else σ1.fin c o false
/-- One instruction of operation c by operation a. -/
def PwS.adv (σ : PwS) (a : Nat) (o : OpS) (c : Nat) (oc : OpS) : PwS :=
 if oc.stage = 0 then σ.load sum at0 c oc o.th
 else
  let o1 := if o.tgt = some c ∧ o.inn = oc.stage then o else { o with tgt := some c, inn := oc.stage, next := 0 }
  let σ1 : PwS := { σ.setOp a o1 with dev := σ.dev.exec1 o.th (oc.prog.getD o1.next (0, 0, 0)) }
  if (σ1.dev.thr o.th).err ≠ 0 then σ1
  else
   let o2 := { o1 with next := o1.next + 1 }
   let σ2 := σ1.setOp a o2
   if o2.next = oc.prog.length then σ2.enter sum at0 c (if c = a then o2 else oc) (oc.stage + 1) else σ2
/-- The operation ends. -/
def PwS.fend (σ : PwS) (a : Nat) (o : OpS) (e : Int) : PwS :=
 let σ1 := { σ.setOp a { o with ended := true, err := e } with busy := σ.busy.set o.k false }
 if !o.done && decide (σ.cur = some a) && decide (o.stage < 2) then { σ1 with cur := none } else σ1
/-- A step of operation a, and whether it has ended then. -/
def PwS.step (σ : PwS) (a : Nat) : PwS × Bool :=
 match σ.ops a with
 | none => (σ, true)
 | some o =>
  if o.ended then (σ, true)
  else if (σ.dev.thr o.th).err ≠ 0 then (σ.fend a o (σ.dev.thr o.th).err, true)
  else if o.done then (σ.fend a o 0, true)
  else
   let σ0 : PwS := if σ.cur.isSome then σ else { σ with cur := some a }
   let c := σ0.cur.getD a
   match σ0.ops c with
   | none => (σ, true)
   | some oc =>
    let σ1 := σ0.adv sum at0 a o c oc
    match σ1.ops a with
    | none => (σ1, true)
    | some o1 =>
     if (σ1.dev.thr o.th).err ≠ 0 then (σ1.fend a o1 (σ1.dev.thr o.th).err, true)
     else if o1.done then (σ1.fend a o1 0, true)
     else (σ1, false)
end
def E0 : Ent := ⟨0, 0, 0, false⟩
structure EntOk (n : Nat) (M : Nat → Prop) (e : Ent) : Prop where
 wd : ∃ k : Nat, M k ∧ k < 8 * n ∧ e.off = 8 * (k : Int)
 old : 0 ≤ e.old ∧ e.old < 4611686018427387904
 new : 0 ≤ e.new ∧ e.new < 1099511627776
structure OpOk (cnt n : Nat) (M : Nat → Prop) (o : OpS) : Prop where
 th : o.th < 8
 k : o.k < cnt
 l1 : 1 ≤ o.es.length
 l6 : o.es.length ≤ 6
 ent : ∀ e ∈ o.es, EntOk n M e
 nd : ∀ i j, i < o.es.length → j < o.es.length → (o.es.getD i E0).off = (o.es.getD j E0).off → i = j
 perm : o.order.Perm (List.range o.es.length)
 sl : o.seen.length = o.es.length
 sr : ∀ q, 0 ≤ gt0 o.seen q ∧ gt0 o.seen q < 4611686018427387904
def wdE (es : List Ent) (q : Nat) : Nat := ((es.getD q E0).off / 8).toNat
/-- Are the entries satisfied by these words? -/
def satL (L : Nat → Int) (es : List Ent) : Bool := (List.range es.length).all fun q => (es.getD q E0).sat (L (wdE es q))
/-- The words afterwards. -/
def appL (L : Nat → Int) (es : List Ent) : Nat → Int := fun k => match (List.range es.length).find? (fun q => wdE es q == k) with
 | some q => (es.getD q E0).after (L k)
 | none => L k
theorem Ent.after_range (e : Ent) (raw : Int) (h : 0 ≤ e.new ∧ e.new < 1099511627776) : 0 ≤ e.after raw ∧ e.after raw < 4611686018427387904 := by
 unfold Ent.after; omega
section
variable {n cnt N : Nat} {M : Nat → Prop} {o : OpS} {L : Nat → Int}
theorem OpOk.at_ (h : OpOk cnt n M o) {q : Nat} (hq : q < o.es.length) : EntOk n M (o.es.getD q E0) := by
 rw [List.getD_eq_getElem?_getD, List.getElem?_eq_getElem hq]; exact h.ent _ (List.getElem_mem hq)
theorem OpOk.wd (h : OpOk cnt n M o) {q : Nat} (hq : q < o.es.length) : M (wdE o.es q) ∧ wdE o.es q < 8 * n ∧ (o.es.getD q E0).off = 8 * (wdE o.es q : Int) := by
 obtain ⟨k, h1, h2, h3⟩ := (h.at_ hq).wd
 have e : wdE o.es q = k := by unfold wdE; rw [h3]; omega
 rw [e]; exact ⟨h1, h2, h3⟩
theorem OpOk.inj (h : OpOk cnt n M o) {i j : Nat} (hi : i < o.es.length) (hj : j < o.es.length) (he : wdE o.es i = wdE o.es j) : i = j :=
 h.nd i j hi hj (by rw [(h.wd hi).2.2, (h.wd hj).2.2, he])
theorem appL_at (h : OpOk cnt n M o) {q : Nat} (hq : q < o.es.length) : appL L o.es (wdE o.es q) = (o.es.getD q E0).after (L (wdE o.es q)) := by
 unfold appL
 cases hf : (List.range o.es.length).find? (fun q' => wdE o.es q' == wdE o.es q) with
 | none =>
  rw [List.find?_eq_none] at hf
  exact absurd (hf q (by simpa using hq)) (by simp)
 | some q' =>
  have h1 := List.find?_some hf
  have h2 := List.mem_of_find?_eq_some hf
  have : q' = q := h.inj (by simpa using h2) hq (by simpa using h1)
  rw [this]
theorem appL_ne {es : List Ent} {k : Nat} (h : ∀ q, q < es.length → wdE es q ≠ k) : appL L es k = L k := by
 unfold appL
 cases hf : (List.range es.length).find? (fun q' => wdE es q' == k) with
 | none => rfl
 | some q' =>
  have h1 := List.find?_some hf
  have h2 := List.mem_of_find?_eq_some hf
  exact absurd (by simpa using h1) (h q' (by simpa using h2))
theorem OpOk.order_get (h : OpOk cnt n M o) {j : Nat} (hj : j < o.order.length) : o.order.getD j 0 < o.es.length := by
 have : o.order.getD j 0 ∈ o.order := by
  rw [List.getD_eq_getElem?_getD, List.getElem?_eq_getElem hj]; exact List.getElem_mem hj
 have := h.perm.mem_iff.1 this
 simpa using this
theorem OpOk.order_len (h : OpOk cnt n M o) : o.order.length = o.es.length := by rw [h.perm.length_eq]; simp
theorem OpOk.order_all (h : OpOk cnt n M o) {q : Nat} (hq : q < o.es.length) : ∃ j, j < o.order.length ∧ o.order.getD j 0 = q := by
 have : q ∈ o.order := h.perm.mem_iff.2 (by simpa using hq)
 obtain ⟨j, hj, he⟩ := List.getElem_of_mem this
 exact ⟨j, hj, by rw [List.getD_eq_getElem?_getD, List.getElem?_eq_getElem hj]; exact he⟩
theorem OpOk.order_inj (h : OpOk cnt n M o) {i j : Nat} (hi : i < o.order.length) (hj : j < o.order.length) (he : o.order.getD i 0 = o.order.getD j 0) : i = j := by
 have hnd : o.order.Nodup := h.perm.nodup_iff.2 List.nodup_range
 simp only [List.getD_eq_getElem?_getD, List.getElem?_eq_getElem hi, List.getElem?_eq_getElem hj, Option.getD_some] at he
 exact (List.getElem_inj hnd).1 he
end

/-- The descriptors lie in words that are not managed. -/
def RegOk (n cnt : Nat) (M : Nat → Prop) (at0 : Nat → Int) : Prop := (∀ k, M k → k < 8 * n) ∧ ∀ k, k < cnt → ∃ b : Nat, at0 k = 8 * (b : Int) ∧ ∀ j, j < 32 → b + j < 8 * n ∧ ¬ M (b + j)
def OpS.allSeen (o : OpS) (L : Nat → Int) : Prop := ∀ q, q < o.es.length → gt0 o.seen q = L (wdE o.es q) ∧ (o.es.getD q E0).sat (L (wdE o.es q)) = true
section
variable (sum : List Int → Int) (at0 : Nat → Int)
/-- The operation that is executed now: how far it is. -/
def CurOk (M : Nat → Prop) (o : OpS) (xs : List Int) (L : Nat → Int) : Prop :=
 (o.stage = 0 ∧ o.loaded < o.order.length ∧ (∀ j, j < o.loaded → gt0 o.seen (o.order.getD j 0) = L (wdE o.es (o.order.getD j 0)) ∧ (o.es.getD (o.order.getD j 0) E0).sat (L (wdE o.es (o.order.getD j 0))) = true) ∧ ∀ k, M k → xs[k]? = some (L k)) ∨
 ((o.stage = 1 ∨ o.stage = 2) ∧ o.allSeen L ∧ o.prog = o.progOf sum at0 o.stage ∧ ∀ k, M k → xs[k]? = some (L k)) ∨
 (o.stage = 3 ∧ o.allSeen L ∧ o.prog = o.progOf sum at0 3 ∧ (∀ k, M k → (∀ q, q < o.es.length → wdE o.es q ≠ k) → xs[k]? = some (L k)) ∧ ∀ q, q < o.es.length → xs[wdE o.es q]? = some (L (wdE o.es q)) ∨ xs[wdE o.es q]? = some ((o.es.getD q E0).after (gt0 o.seen q))) ∨
 (o.stage = 4 ∧ o.prog = o.progOf sum at0 4 ∧ ∀ k, M k → xs[k]? = some (L k))
/-- What holds between the steps of operations, on a device that is on. -/
structure Inv (n cnt : Nat) (M : Nat → Prop) (N : Nat) (σ : PwS) (xs : List Int) (L : Nat → Int) : Prop where
 on : On σ.dev n xs N
 hL : ∀ k, M k → 0 ≤ L k ∧ L k < 4611686018427387904
 ok : ∀ a o, σ.ops a = some o → OpOk cnt n M o
 idle : σ.cur = none → ∀ k, M k → xs[k]? = some (L k)
 run : ∀ c, σ.cur = some c → ∃ oc, σ.ops c = some oc ∧ oc.done = false ∧ oc.ended = false ∧ CurOk sum at0 M oc xs L
 fresh : ∀ a o, σ.ops a = some o → σ.cur ≠ some a → o.done = false → o.stage = 0 ∧ o.loaded = 0 ∧ o.ended = false
 pos : ∀ a o c oc, σ.ops a = some o → σ.cur = some c → σ.ops c = some oc → o.tgt = some c → o.inn = oc.stage → 1 ≤ oc.stage → o.next < oc.prog.length ∧ (oc.stage = 3 → ∀ q, q < o.next → q < oc.es.length → xs[wdE oc.es q]? = some ((oc.es.getD q E0).after (gt0 oc.seen q)))
 inn : ∀ a o c, σ.ops a = some o → o.tgt = some c → ∃ oc, σ.ops c = some oc ∧ o.inn ≤ oc.stage
 fin : ∀ a o, σ.ops a = some o → o.ended = true → o.done = true
/-- The result of an operation, once it has taken effect. -/
def OpS.res (o : OpS) : Option Bool := if o.done then some o.changed else if 4 ≤ o.stage then some true else none
def OpS.key (o : OpS) : List Ent × Nat × Nat × Option Bool := (o.es, o.th, o.k, o.res)
/-- What a step has done: nothing that is seen, or an operation has taken effect. -/
def Eff (a : Nat) (σ σ' : PwS) (L L' : Nat → Int) : Prop :=
 (L' = L ∧ ∀ b, (σ'.ops b).map OpS.key = (σ.ops b).map OpS.key) ∨
 ∃ c oc oc', σ.ops c = some oc ∧ σ'.ops c = some oc' ∧ oc.res = none ∧ oc'.res = some (satL L oc.es) ∧ L' = (if satL L oc.es then appL L oc.es else L) ∧ oc'.es = oc.es ∧ oc'.th = oc.th ∧ oc'.k = oc.k ∧ (σ.cur = some c ∨ c = a) ∧ oc.ended = false ∧ ∀ b, b ≠ c → (σ'.ops b).map OpS.key = (σ.ops b).map OpS.key
/-- At instruction j of stage s of operation c. -/
def OpS.pos (o : OpS) (c s j : Nat) : OpS := { o with tgt := some c, inn := s, next := j }
def OpS.jat (o : OpS) (c s : Nat) : Nat := if o.tgt = some c ∧ o.inn = s then o.next else 0
theorem OpS.pos_at (o : OpS) (c s : Nat) : (if o.tgt = some c ∧ o.inn = s then o else { o with tgt := some c, inn := s, next := 0 }) = o.pos c s (o.jat c s) := by
 unfold OpS.jat
 split
 · rename_i h
   obtain ⟨h1, h2⟩ := h
   cases o
   simp only at h1 h2
   subst h1 h2
   rfl
 · rfl
section
variable {sum : List Int → Int} {at0 : Nat → Int} {n cnt N : Nat} {M : Nat → Prop} {σ : PwS} {xs : List Int} {L : Nat → Int} {a c : Nat} {o oc : OpS}
/-- An operation takes over. -/
theorem Inv.claim (h : Inv sum at0 n cnt M N σ xs L) (hc : σ.cur = none) (ha : σ.ops a = some o) (hd : o.done = false) : Inv sum at0 n cnt M N { σ with cur := some a } xs L := by
 obtain ⟨f1, f2, f3⟩ := h.fresh a o ha (by rw [hc]; simp) hd
 have hok := h.ok a o ha
 have hl := hok.order_len
 have := hok.l1
 refine ⟨h.on, h.hL, h.ok, fun he => by simp at he, fun c hcc => ?_, fun b ob hb hne hdb => h.fresh b ob hb (by rw [hc]; simp) hdb, fun b ob c oc hb hcc hoc ht hi h1 => ?_, h.inn, h.fin⟩
 · have : a = c := by simpa using hcc
   subst this
   exact ⟨o, ha, hd, f3, .inl ⟨f1, by omega, fun j hj => by omega, h.idle hc⟩⟩
 · have : a = c := by simpa using hcc
   subst this
   rw [show oc = o by rw [show σ.ops a = some oc from hoc] at ha; injection ha] at h1
   omega
/-- An operation that is done ends. -/
theorem Inv.fend (h : Inv sum at0 n cnt M N σ xs L) (ha : σ.ops a = some o) (hd : o.done = true) (bs : List Bool) : Inv sum at0 n cnt M N { σ.setOp a { o with ended := true, err := 0 } with busy := bs } xs L := by
 have hca : σ.cur ≠ some a := fun hc => by
  obtain ⟨oc, h1, h2, _⟩ := h.run a hc
  rw [ha] at h1; injection h1 with h1; rw [h1] at hd; rw [hd] at h2; cases h2
 have key : ∀ b ob, (if b = a then some { o with ended := true, err := 0 } else σ.ops b) = some ob → ∃ ob0, σ.ops b = some ob0 ∧ (ob = ob0 ∨ (b = a ∧ ob = { o with ended := true, err := 0 } ∧ ob0 = o)) := by
  intro b ob hb
  split at hb
  · rename_i hba
    injection hb with hb
    exact ⟨o, by rw [hba]; exact ha, .inr ⟨hba, hb.symm, rfl⟩⟩
  · exact ⟨ob, hb, .inl rfl⟩
 refine ⟨h.on, h.hL, fun b ob hb => ?_, h.idle, fun c hc => ?_, fun b ob hb hne hdb => ?_, fun b ob c oc hb hc hoc ht hi h1 => ?_, fun b ob c hb ht => ?_, fun b ob hb he => ?_⟩
 · obtain ⟨ob0, h1, h2 | ⟨_, h2, h3⟩⟩ := key b ob hb
   · rw [h2]; exact h.ok b ob0 h1
   · have := h.ok b ob0 h1
     rw [h3] at this
     rw [h2]; exact ⟨this.th, this.k, this.l1, this.l6, this.ent, this.nd, this.perm, this.sl, this.sr⟩
 · obtain ⟨oc, h1, h2⟩ := h.run c hc
   refine ⟨oc, ?_, h2⟩
   show (if c = a then _ else σ.ops c) = some oc
   rw [if_neg (fun he => hca (by rw [← he]; exact hc))]; exact h1
 · obtain ⟨ob0, h1, h2 | ⟨_, h2, h3⟩⟩ := key b ob hb
   · rw [h2] at hdb ⊢; exact h.fresh b ob0 h1 hne hdb
   · rw [h2] at hdb
     exact absurd hdb (by show ¬ o.done = false; rw [hd]; simp)
 · obtain ⟨oc0, g1, g2 | ⟨g0, _, _⟩⟩ := key c oc hoc
   · rw [g2] at hi h1 ⊢
     obtain ⟨ob0, h2, h3 | ⟨_, h3, h4⟩⟩ := key b ob hb
     · rw [h3] at ht hi ⊢; exact h.pos b ob0 c oc0 h2 hc g1 ht hi h1
     · rw [h3] at ht hi ⊢
       rw [h4] at h2
       exact h.pos b o c oc0 h2 hc g1 ht hi h1
   · exact absurd (by rw [← g0]; exact hc) hca
 · obtain ⟨ob0, h2, h3⟩ := key b ob hb
   have ht' : ob0.tgt = some c ∧ ob0.inn = ob.inn := by
    rcases h3 with h3 | ⟨_, h3, h4⟩
    · rw [h3] at ht ⊢; exact ⟨ht, rfl⟩
    · rw [h3] at ht ⊢; rw [h4]; exact ⟨ht, rfl⟩
   obtain ⟨oc, g1, g2⟩ := h.inn b ob0 c h2 ht'.1
   rw [ht'.2] at g2
   by_cases hca' : c = a
   · refine ⟨{ o with ended := true, err := 0 }, if_pos hca', ?_⟩
     rw [hca', ha] at g1
     injection g1 with g1
     rw [← g1] at g2; exact g2
   · exact ⟨oc, (if_neg hca').trans g1, g2⟩
 · obtain ⟨ob0, h2, h3 | ⟨_, h3, h4⟩⟩ := key b ob hb
   · rw [h3] at he ⊢; exact h.fin b ob0 h2 he
   · rw [h3]; exact hd
end
end
section
variable {sum : List Int → Int} {at0 : Nat → Int} {n cnt N N' : Nat} {M : Nat → Prop} {σ : PwS} {xs xs' : List Int} {L L' : Nat → Int} {a c : Nat} {o oc oc' : OpS} {D' : DevS}
/-- The current operation goes on to another stage, or ends. -/
theorem Inv.setC (h : Inv sum at0 n cnt M N σ xs L) (hc : σ.cur = some c) (hoc : σ.ops c = some oc) (ok' : OpOk cnt n M oc') (t1 : oc'.tgt = oc.tgt) (t2 : oc'.inn = oc.inn) (t3 : oc'.next = oc.next)
 (hst : oc.stage < oc'.stage ∨ oc'.stage = 0) (hst' : oc.stage ≤ oc'.stage) (he : oc'.ended = false) (hon : On D' n xs' N') (hL' : ∀ k, M k → 0 ≤ L' k ∧ L' k < 4611686018427387904) (cur' : Option Nat)
 (hcur : (cur' = some c ∧ oc'.done = false ∧ CurOk sum at0 M oc' xs' L') ∨ (cur' = none ∧ oc'.done = true ∧ ∀ k, M k → xs'[k]? = some (L' k))) :
 Inv sum at0 n cnt M N' { σ.setOp c oc' with dev := D', cur := cur' } xs' L' := by
 have key : ∀ b ob, (if b = c then some oc' else σ.ops b) = some ob → ∃ ob0, σ.ops b = some ob0 ∧ ((b ≠ c ∧ ob = ob0) ∨ (b = c ∧ ob = oc' ∧ ob0 = oc)) := by
  intro b ob hb
  split at hb
  · rename_i hba
    injection hb with hb
    exact ⟨oc, by rw [hba]; exact hoc, .inr ⟨hba, hb.symm, rfl⟩⟩
  · rename_i hba
    exact ⟨ob, hb, .inl ⟨hba, rfl⟩⟩
 have hself : (if c = c then some oc' else σ.ops c) = some oc' := if_pos rfl
 refine ⟨hon, hL', fun b ob hb => ?_, fun h0 => ?_, fun d hd => ?_, fun b ob hb hne hdb => ?_, fun b ob d od hb hd hod ht hi h1 => ?_, fun b ob d hb ht => ?_, fun b ob hb heb => ?_⟩
 · obtain ⟨ob0, h1, ⟨_, h2⟩ | ⟨_, h2, _⟩⟩ := key b ob hb
   · rw [h2]; exact h.ok b ob0 h1
   · rw [h2]; exact ok'
 · rcases hcur with ⟨h1, _⟩ | ⟨_, _, h3⟩
   · rw [show cur' = none from h0] at h1; cases h1
   · exact h3
 · rcases hcur with ⟨h1, h2, h3⟩ | ⟨h1, _⟩
   · have : d = c := by rw [h1] at hd; injection hd with hd; exact hd.symm
     subst this
     exact ⟨oc', hself, h2, he, h3⟩
   · rw [h1] at hd; cases hd
 · obtain ⟨ob0, h1, ⟨h0, h2⟩ | ⟨h0, h2, _⟩⟩ := key b ob hb
   · rw [h2] at hdb ⊢; exact h.fresh b ob0 h1 (by rw [hc]; exact fun hh => h0 (by injection hh with hh; exact hh.symm)) hdb
   · rcases hcur with ⟨h1, _⟩ | ⟨_, h3, _⟩
     · exact absurd (show cur' = some b by rw [h1, h0]) hne
     · rw [h2, h3] at hdb; cases hdb
 · rcases hcur with ⟨h1, _⟩ | ⟨h1, _⟩
   · have hdc : d = c := by rw [h1] at hd; injection hd with hd; exact hd.symm
     subst hdc
     have hod' : od = oc' := by
      have hod2 : (if d = d then some oc' else σ.ops d) = some od := hod
      rw [hself] at hod2; injection hod2 with hod2; exact hod2.symm
     subst hod'
     obtain ⟨ob0, g1, g2⟩ := key b ob hb
     have g3 : ob0.tgt = some d ∧ ob0.inn = ob.inn := by
      rcases g2 with ⟨_, g2⟩ | ⟨_, g2, g3⟩
      · rw [g2] at ht ⊢; exact ⟨ht, rfl⟩
      · rw [g2] at ht ⊢; rw [g3, ← t1, ← t2]; exact ⟨ht, rfl⟩
     obtain ⟨oc2, g4, g5⟩ := h.inn b ob0 d g1 g3.1
     rw [hoc] at g4
     injection g4 with g4
     rw [← g4, g3.2, hi] at g5
     omega
   · rw [h1] at hd; cases hd
 · obtain ⟨ob0, g1, g2⟩ := key b ob hb
   have g3 : ob0.tgt = some d ∧ ob0.inn = ob.inn := by
    rcases g2 with ⟨_, g2⟩ | ⟨_, g2, g3⟩
    · rw [g2] at ht ⊢; exact ⟨ht, rfl⟩
    · rw [g2] at ht ⊢; rw [g3, ← t1, ← t2]; exact ⟨ht, rfl⟩
   obtain ⟨od, g4, g5⟩ := h.inn b ob0 d g1 g3.1
   rw [g3.2] at g5
   by_cases hdc : d = c
   · subst hdc
     rw [hoc] at g4
     injection g4 with g4
     exact ⟨oc', hself, by rw [← g4] at g5; omega⟩
   · exact ⟨od, (if_neg hdc).trans g4, g5⟩
 · obtain ⟨ob0, h1, ⟨_, h2⟩ | ⟨_, h2, _⟩⟩ := key b ob hb
   · rw [h2] at heb ⊢; exact h.fin b ob0 h1 heb
   · rw [h2, he] at heb; cases heb
/-- The device goes on, within a stage. -/
theorem Inv.setD (h : Inv sum at0 n cnt M N σ xs L) (hc : σ.cur = some c) (hoc : σ.ops c = some oc) (hon : On D' n xs' N') (hcur : CurOk sum at0 M oc xs' L)
 (hp : oc.stage = 3 → ∀ q, q < oc.es.length → xs[wdE oc.es q]? = some ((oc.es.getD q E0).after (gt0 oc.seen q)) → xs'[wdE oc.es q]? = some ((oc.es.getD q E0).after (gt0 oc.seen q))) :
 Inv sum at0 n cnt M N' { σ with dev := D' } xs' L := by
 refine ⟨hon, h.hL, h.ok, fun h0 => (by rw [show σ.cur = none from h0] at hc; cases hc), fun d hd => ?_, h.fresh, fun b ob d od hb hd hod ht hi h1 => ?_, h.inn, h.fin⟩
 · have hdc : d = c := by rw [show σ.cur = some d from hd] at hc; injection hc
   subst hdc
   obtain ⟨oc2, g1, g2, g3, g4⟩ := h.run d hc
   rw [hoc] at g1
   injection g1 with g1
   subst g1
   exact ⟨oc, hoc, g2, g3, hcur⟩
 · have hdc : d = c := by rw [show σ.cur = some d from hd] at hc; injection hc
   subst hdc
   have hod' : od = oc := by rw [show σ.ops d = some od from hod] at hoc; injection hoc
   subst hod'
   obtain ⟨g1, g2⟩ := h.pos b ob d od hb hd hod ht hi h1
   exact ⟨g1, fun h3 q hq hql => hp h3 q hql (g2 h3 q hq hql)⟩
/-- A thread goes on, within the current stage or one that is over. -/
theorem Inv.setA (h : Inv sum at0 n cnt M N σ xs L) (hoc : σ.ops c = some oc) (ha : σ.ops a = some o) {s j : Nat} (hs : s ≤ oc.stage)
 (hj : σ.cur = some c → s = oc.stage → j < oc.prog.length ∧ (oc.stage = 3 → ∀ q, q < j → q < oc.es.length → xs[wdE oc.es q]? = some ((oc.es.getD q E0).after (gt0 oc.seen q)))) :
 Inv sum at0 n cnt M N (σ.setOp a (o.pos c s j)) xs L := by
 have key : ∀ b ob, (if b = a then some (o.pos c s j) else σ.ops b) = some ob → ∃ ob0, σ.ops b = some ob0 ∧ ((b ≠ a ∧ ob = ob0) ∨ (b = a ∧ ob = o.pos c s j ∧ ob0 = o)) := by
  intro b ob hb
  split at hb
  · rename_i hba
    injection hb with hb
    exact ⟨o, by rw [hba]; exact ha, .inr ⟨hba, hb.symm, rfl⟩⟩
  · rename_i hba
    exact ⟨ob, hb, .inl ⟨hba, rfl⟩⟩
 have back : ∀ d od, σ.ops d = some od → ∃ od', (if d = a then some (o.pos c s j) else σ.ops d) = some od' ∧ od'.stage = od.stage := by
  intro d od hd
  by_cases hda : d = a
  · subst hda
    rw [ha] at hd
    injection hd with hd
    subst hd
    exact ⟨_, if_pos rfl, rfl⟩
  · exact ⟨od, (if_neg hda).trans hd, rfl⟩
 refine ⟨h.on, h.hL, fun b ob hb => ?_, h.idle, fun d hd => ?_, fun b ob hb hne hdb => ?_, fun b ob d od hb hd hod ht hi h1 => ?_, fun b ob d hb ht => ?_, fun b ob hb heb => ?_⟩
 · obtain ⟨ob0, h1, ⟨_, h2⟩ | ⟨_, h2, h3⟩⟩ := key b ob hb
   · rw [h2]; exact h.ok b ob0 h1
   · have := h.ok b ob0 h1
     rw [h3] at this
     rw [h2]; exact ⟨this.th, this.k, this.l1, this.l6, this.ent, this.nd, this.perm, this.sl, this.sr⟩
 · obtain ⟨od, g1, g2, g3, g4⟩ := h.run d hd
   by_cases hda : d = a
   · subst hda
     rw [ha] at g1
     injection g1 with g1
     subst g1
     exact ⟨_, if_pos rfl, g2, g3, g4⟩
   · exact ⟨od, (if_neg hda).trans g1, g2, g3, g4⟩
 · obtain ⟨ob0, h1, ⟨_, h2⟩ | ⟨h0, h2, h3⟩⟩ := key b ob hb
   · rw [h2] at hdb ⊢; exact h.fresh b ob0 h1 hne hdb
   · rw [h3] at h1
     rw [h2] at hdb ⊢; exact h.fresh b o h1 hne hdb
 · obtain ⟨od0, e1, e2⟩ := key d od hod
   have est : od.stage = od0.stage ∧ od.prog = od0.prog ∧ od.es = od0.es ∧ od.seen = od0.seen := by
    rcases e2 with ⟨_, e2⟩ | ⟨_, e2, e3⟩
    · rw [e2]; exact ⟨rfl, rfl, rfl, rfl⟩
    · rw [e2, e3]; exact ⟨rfl, rfl, rfl, rfl⟩
   rw [est.1] at hi h1
   rw [est.1, est.2.1, est.2.2.1, est.2.2.2]
   obtain ⟨ob0, g1, ⟨_, g2⟩ | ⟨_, g2, g3⟩⟩ := key b ob hb
   · rw [g2] at ht hi ⊢; exact h.pos b ob0 d od0 g1 hd e1 ht hi h1
   · rw [g2] at ht hi ⊢
     have hdc : c = d := by injection (show some c = some d from ht)
     subst hdc
     have eoc : od0 = oc := by rw [e1] at hoc; injection hoc
     subst eoc
     exact hj hd hi
 · obtain ⟨ob0, g1, ⟨_, g2⟩ | ⟨_, g2, g3⟩⟩ := key b ob hb
   · rw [g2] at ht ⊢
     obtain ⟨od, e1, e2⟩ := h.inn b ob0 d g1 ht
     obtain ⟨od', e3, e4⟩ := back d od e1
     exact ⟨od', e3, by omega⟩
   · rw [g2] at ht ⊢
     have hdc : c = d := by injection (show some c = some d from ht)
     subst hdc
     obtain ⟨od', e3, e4⟩ := back c oc hoc
     exact ⟨od', e3, by show s ≤ _; omega⟩
 · obtain ⟨ob0, h1, ⟨_, h2⟩ | ⟨_, h2, h3⟩⟩ := key b ob hb
   · rw [h2] at heb ⊢; exact h.fin b ob0 h1 heb
   · rw [h3] at h1
     rw [h2] at heb ⊢; exact h.fin b o h1 heb
end

/-! The programs of the stages. -/
theorem length_entW (sum : List Int → Int) (es : List Ent) (seen : List Int) (h : seen.length = es.length) : (entW sum es seen).length = 3 * es.length := by
 unfold entW
 induction es generalizing seen with
 | nil => rfl
 | cons e es ih =>
  cases seen with
  | nil => simp at h
  | cons v seen =>
   rw [List.zip_cons_cons, List.flatMap_cons, List.length_append, ih seen (by simpa using h)]
   simp; omega
theorem length_recW (b : Int) (ws : List Int) : (recW b ws).length = ws.length := by simp [recW]
theorem mem_recW (b : Int) (ws : List Int) (p : Int × Int) (h : p ∈ recW b ws) : ∃ i : Nat, i < ws.length ∧ p.1 = b + 64 + 8 * (i : Int) := by
 unfold recW at h
 rw [List.mem_map] at h
 obtain ⟨⟨v, i⟩, h1, rfl⟩ := h
 have := List.mem_zipIdx h1
 exact ⟨i, by omega, rfl⟩
theorem length_chgW (es : List Ent) (seen : List Int) (h : seen.length = es.length) : (chgW es seen).length = es.length := by simp [chgW, h]
theorem chgW_get (es : List Ent) (seen : List Int) (h : seen.length = es.length) {q : Nat} (hq : q < es.length) : (chgW es seen).getD q (0, 0) = ((es.getD q E0).off, (es.getD q E0).after (gt0 seen q)) := by
 have hq' : q < seen.length := by omega
 unfold chgW
 rw [List.getD_eq_getElem?_getD, List.getElem?_map, List.getElem?_eq_getElem (by simp [h, hq])]
 simp [gt0, hq, hq']
theorem mem_chgW (es : List Ent) (seen : List Int) (h : seen.length = es.length) (p : Int × Int) (hp : p ∈ chgW es seen) : ∃ q, q < es.length ∧ p.1 = (es.getD q E0).off := by
 obtain ⟨q, hq, he⟩ := List.getElem_of_mem hp
 rw [length_chgW es seen h] at hq
 have := chgW_get es seen h hq
 refine ⟨q, hq, ?_⟩
 rw [List.getD_eq_getElem?_getD, List.getElem?_eq_getElem (by rw [length_chgW es seen h]; exact hq), Option.getD_some, he] at this
 rw [this]
section
variable {sum : List Int → Int} {at0 : Nat → Int} {n cnt N N' : Nat} {M : Nat → Prop} {σ : PwS} {xs xs' : List Int} {L L' : Nat → Int} {a c : Nat} {o oc oc' : OpS} {D' : DevS}
/-- What a stage's program stores. -/
theorem progInfo (hR : RegOk n cnt M at0) (h : OpOk cnt n M o) {s : Nat} (h1 : 1 ≤ s) (h4 : s ≤ 4) : ∃ ws, o.progOf sum at0 s = storesX ws ∧ (∀ p ∈ ws, ∃ k : Nat, k < 8 * n ∧ p.1 = 8 * (k : Int)) ∧
 (s ≠ 3 → ∀ p ∈ ws, ∀ k : Nat, p.1 = 8 * (k : Int) → ¬ M k) ∧ (s = 3 → ws = chgW o.es o.seen) ∧ 1 ≤ ws.length ∧ ws.length ≤ 18 := by
 obtain ⟨b, hb, hbj⟩ := hR.2 o.k h.k
 have hl1 := h.l1
 have hl6 := h.l6
 by_cases e1 : s = 1
 · refine ⟨_, by unfold OpS.progOf; rw [if_pos e1], fun p hp => ?_, fun _ p hp k hk => ?_, fun hh => by omega, ?_, ?_⟩
   · obtain ⟨i, hi, he⟩ := mem_recW _ _ p hp
     rw [length_entW sum _ _ h.sl] at hi
     exact ⟨b + (8 + i), (hbj (8 + i) (by omega)).1, by rw [he, hb]; omega⟩
   · obtain ⟨i, hi, he⟩ := mem_recW _ _ p hp
     rw [length_entW sum _ _ h.sl] at hi
     rw [show k = b + (8 + i) by omega]
     exact (hbj (8 + i) (by omega)).2
   · rw [length_recW, length_entW sum _ _ h.sl]; omega
   · rw [length_recW, length_entW sum _ _ h.sl]; omega
 · by_cases e2 : s = 2
   · refine ⟨_, by unfold OpS.progOf; rw [if_neg e1, if_pos e2], fun p hp => ?_, fun _ p hp k hk => ?_, fun hh => by omega, by simp, by simp⟩
     · rw [List.mem_singleton] at hp
       exact ⟨b + 0, (hbj 0 (by omega)).1, by rw [hp]; exact hb⟩
     · rw [List.mem_singleton] at hp
       rw [hp] at hk
       rw [show k = b + 0 by have : at0 o.k = 8 * (k : Int) := hk; omega]
       exact (hbj 0 (by omega)).2
   · by_cases e3 : s = 3
     · refine ⟨_, by unfold OpS.progOf; rw [if_neg e1, if_neg e2, if_pos e3], fun p hp => ?_, fun hh => absurd e3 hh, fun _ => rfl, ?_, ?_⟩
       · obtain ⟨q, hq, he⟩ := mem_chgW _ _ h.sl p hp
         exact ⟨_, (h.wd hq).2.1, by rw [he]; exact (h.wd hq).2.2⟩
       · rw [length_chgW _ _ h.sl]; omega
       · rw [length_chgW _ _ h.sl]; omega
     · refine ⟨_, by unfold OpS.progOf; rw [if_neg e1, if_neg e2, if_neg e3], fun p hp => ?_, fun _ p hp k hk => ?_, fun hh => by omega, by simp, by simp⟩
       · rw [List.mem_singleton] at hp
         exact ⟨b + 0, (hbj 0 (by omega)).1, by rw [hp]; exact hb⟩
       · rw [List.mem_singleton] at hp
         rw [hp] at hk
         rw [show k = b + 0 by have : at0 o.k = 8 * (k : Int) := hk; omega]
         exact (hbj 0 (by omega)).2
end
section
variable {sum : List Int → Int} {at0 : Nat → Int} {n cnt N N' : Nat} {M : Nat → Prop} {σ : PwS} {xs xs' : List Int} {L L' : Nat → Int} {a c : Nat} {o oc oc' : OpS} {D' : DevS}
theorem CurOk.info (h : CurOk sum at0 M oc xs L) (h1 : oc.stage ≠ 0) : 1 ≤ oc.stage ∧ oc.stage ≤ 4 ∧ oc.prog = oc.progOf sum at0 oc.stage := by
 rcases h with ⟨h, _⟩ | ⟨h, _, h2, _⟩ | ⟨h, _, h2, _⟩ | ⟨h, h2, _⟩
 · exact absurd h h1
 · exact ⟨by omega, by omega, h2⟩
 · exact ⟨by omega, by omega, by rw [h]; exact h2⟩
 · exact ⟨by omega, by omega, by rw [h]; exact h2⟩
theorem PwS.ext' {σ τ : PwS} (h1 : σ.dev = τ.dev) (h2 : σ.busy = τ.busy) (h3 : σ.cur = τ.cur) (h4 : ∀ b, σ.ops b = τ.ops b) : σ = τ := by
 cases σ; cases τ
 simp only at h1 h2 h3 h4
 rw [h1, h2, h3, funext h4]
/-- The words after instruction j of the current stage. -/
structure InsOk (M : Nat → Prop) (oc : OpS) (j : Nat) (xs xs' : List Int) : Prop where
 out : ∀ k, M k → oc.stage ≠ 3 → xs'[k]? = xs[k]?
 other : ∀ k, M k → (∀ q, q < oc.es.length → wdE oc.es q ≠ k) → xs'[k]? = xs[k]?
 aft : oc.stage = 3 → ∀ q, q < oc.es.length → xs[wdE oc.es q]? = some ((oc.es.getD q E0).after (gt0 oc.seen q)) → xs'[wdE oc.es q]? = some ((oc.es.getD q E0).after (gt0 oc.seen q))
 or_ : oc.stage = 3 → ∀ q, q < oc.es.length → ∀ v, xs[wdE oc.es q]? = some v → xs'[wdE oc.es q]? = some v ∨ xs'[wdE oc.es q]? = some ((oc.es.getD q E0).after (gt0 oc.seen q))
 now : oc.stage = 3 → j < oc.es.length → xs'[wdE oc.es j]? = some ((oc.es.getD j E0).after (gt0 oc.seen j))
theorem insOk (hR : RegOk n cnt M at0) (hok : OpOk cnt n M oc) (hx : xs.length = 8 * n) (h1 : 1 ≤ oc.stage) (h4 : oc.stage ≤ 4) (hp : oc.prog = oc.progOf sum at0 oc.stage) {j : Nat} (hj : j < oc.prog.length) :
 vIns n (oc.prog.getD j (0, 0, 0)) ∧ InsOk M oc j xs (insX xs (oc.prog.getD j (0, 0, 0))) ∧ (oc.stage = 3 → j + 1 = oc.prog.length → oc.es.length ≤ j) ∧ oc.prog.length ≤ 37 := by
 obtain ⟨ws, hw, hv, hu, h3, hl1, hl18⟩ := progInfo (sum := sum) hR hok h1 h4
 rw [hp, hw] at hj ⊢
 have hl := length_storesX (ws := ws)
 have hcp := cpt_le (srtL (starts ws))
 have hsl : (srtL (starts ws)).length = ws.length := by rw [srtL_length]; simp [starts]
 have hn0 : 0 < n := by
  cases ws with
  | nil => simp at hl1
  | cons p ws => obtain ⟨k, hk, _⟩ := hv p (by simp); omega
 have hc3 : oc.stage = 3 → ws.length = oc.es.length := fun e => by rw [h3 e, length_chgW _ _ hok.sl]
 have hmem : (storesX ws).getD j (0, 0, 0) ∈ storesX ws := by
  rw [List.getD_eq_getElem?_getD, List.getElem?_eq_getElem hj]; exact List.getElem_mem hj
 refine ⟨storesX_v hv hn0 _ hmem, ?_, fun e hh => ?_, by omega⟩
 · by_cases hjw : j < ws.length
   · have hg := storesX_lt hjw
     rw [hg]
     have hwm : ws.getD j (0, 0) ∈ ws := by
      rw [List.getD_eq_getElem?_getD, List.getElem?_eq_getElem hjw]; exact List.getElem_mem hjw
     obtain ⟨p, hpe⟩ : ∃ p, ws.getD j (0, 0) = p := ⟨_, rfl⟩
     rw [hpe] at hwm ⊢
     obtain ⟨kp, hkp, hkpe⟩ := hv p hwm
     have hset : insX xs (1, p.1, p.2) = xs.set kp p.2 := by
      unfold insX; rw [if_pos rfl]; show xs.set (p.1 / 8).toNat p.2 = _; rw [hkpe]; congr 1; omega
     rw [hset]
     have hne : ∀ k, kp ≠ k → (xs.set kp p.2)[k]? = xs[k]? := fun k hk => List.getElem?_set_ne hk
     have heq : (xs.set kp p.2)[kp]? = some p.2 := by rw [List.getElem?_set_self (by omega)]
     have h3p : oc.stage = 3 → kp = wdE oc.es j ∧ p.2 = (oc.es.getD j E0).after (gt0 oc.seen j) ∧ j < oc.es.length := fun e => by
      have hjl : j < oc.es.length := by rw [← hc3 e]; exact hjw
      rw [h3 e, chgW_get _ _ hok.sl hjl] at hpe
      refine ⟨?_, by rw [← hpe], hjl⟩
      unfold wdE
      rw [← hpe] at hkpe
      have : (oc.es.getD j E0).off = 8 * (kp : Int) := hkpe
      omega
     refine ⟨fun k hk he => hne k (fun hh => hu he p hwm kp hkpe (by rw [hh]; exact hk)), fun k hk ho => ?_, fun e q hq hv' => ?_, fun e q hq v hv' => ?_, fun e hjl => ?_⟩
     · by_cases e : oc.stage = 3
       · exact hne k (fun hh => ho j (h3p e).2.2 (by rw [← (h3p e).1]; exact hh))
       · exact hne k (fun hh => hu e p hwm kp hkpe (by rw [hh]; exact hk))
     · obtain ⟨g1, g2, g3⟩ := h3p e
       by_cases hqj : q = j
       · subst hqj; rw [← g1, heq, g2]
       · rw [hne _ (fun hh => hqj (hok.inj hq g3 (by rw [← hh, g1])))]; exact hv'
     · obtain ⟨g1, g2, g3⟩ := h3p e
       by_cases hqj : q = j
       · subst hqj; right; rw [← g1, heq, g2]
       · left; rw [hne _ (fun hh => hqj (hok.inj hq g3 (by rw [← hh, g1])))]; exact hv'
     · obtain ⟨g1, g2, g3⟩ := h3p e
       rw [← g1, heq, g2]
   · have hs : insX xs ((storesX ws).getD j (0, 0, 0)) = xs := by
      unfold insX; rw [if_neg (storesX_ge (by omega))]
     rw [hs]
     exact ⟨fun _ _ _ => rfl, fun _ _ _ => rfl, fun _ _ _ h => h, fun _ _ _ v h => .inl h, fun e hjl => absurd (hc3 e) (by omega)⟩
 · have := hc3 e
   have : 1 ≤ (cpt (srtL (starts ws))).length := by
    cases ws with
    | nil => simp at hl1
    | cons p ws =>
     have : startOf p.1 ∈ cpt (srtL (starts (p :: ws))) := by rw [mem_cpt', mem_srtL]; simp [starts]
     exact List.length_pos_of_mem this
   omega
theorem Inv.jat (h : Inv sum at0 n cnt M N σ xs L) (ha : σ.ops a = some o) (hc : σ.cur = some c) (hoc : σ.ops c = some oc) (h1 : 1 ≤ oc.stage) (hl : 0 < oc.prog.length) :
 o.jat c oc.stage < oc.prog.length ∧ (oc.stage = 3 → ∀ q, q < o.jat c oc.stage → q < oc.es.length → xs[wdE oc.es q]? = some ((oc.es.getD q E0).after (gt0 oc.seen q))) := by
 unfold OpS.jat
 split
 · rename_i hh
   exact h.pos a o c oc ha hc hoc hh.1 hh.2 h1
 · exact ⟨hl, fun _ q hq => by omega⟩
/-- The words of the current operation after an instruction. -/
theorem CurOk.ins (h : CurOk sum at0 M oc xs L) (h1 : oc.stage ≠ 0) {j : Nat} (hI : InsOk M oc j xs xs') (hok : OpOk cnt n M oc) : CurOk sum at0 M oc xs' L := by
 rcases h with ⟨h, _⟩ | ⟨h, h2, h3, h4⟩ | ⟨h, h2, h3, h4, h5⟩ | ⟨h, h2, h3⟩
 · exact absurd h h1
 · exact .inr (.inl ⟨h, h2, h3, fun k hk => (hI.out k hk (by omega)).trans (h4 k hk)⟩)
 · refine .inr (.inr (.inl ⟨h, h2, h3, fun k hk ho => (hI.other k hk ho).trans (h4 k hk ho), fun q hq => ?_⟩))
   rcases h5 q hq with h6 | h6
   · exact hI.or_ h q hq _ h6
   · exact .inr (hI.aft h q hq h6)
 · exact .inr (.inr (.inr ⟨h, h2, fun k hk => (hI.out k hk (by omega)).trans (h3 k hk)⟩))
/-- How a stage's program is stepped. -/
theorem adv_eq (σ : PwS) (a : Nat) (o : OpS) (c : Nat) (oc : OpS) (hs : oc.stage ≠ 0) (herr : ((σ.dev.exec1 o.th (oc.prog.getD (o.jat c oc.stage) (0, 0, 0))).thr o.th).err = 0) :
 σ.adv sum at0 a o c oc = if o.jat c oc.stage + 1 = oc.prog.length then (({ σ with dev := σ.dev.exec1 o.th (oc.prog.getD (o.jat c oc.stage) (0, 0, 0)) } : PwS).setOp a (o.pos c oc.stage (o.jat c oc.stage + 1))).enter sum at0 c (if c = a then o.pos c oc.stage (o.jat c oc.stage + 1) else oc) (oc.stage + 1)
  else ({ σ with dev := σ.dev.exec1 o.th (oc.prog.getD (o.jat c oc.stage) (0, 0, 0)) } : PwS).setOp a (o.pos c oc.stage (o.jat c oc.stage + 1)) := by
 unfold PwS.adv
 rw [if_neg hs, OpS.pos_at]
 obtain ⟨j, hj⟩ : ∃ j, o.jat c oc.stage = j := ⟨_, rfl⟩
 rw [hj] at herr ⊢
 have e1 : (o.pos c oc.stage j).next = j := rfl
 simp only [e1]
 rw [if_neg (by show ¬ ((σ.dev.exec1 o.th (oc.prog.getD j (0, 0, 0))).thr o.th).err ≠ 0; rw [herr]; simp)]
 have e2 : ({ σ.setOp a (o.pos c oc.stage j) with dev := σ.dev.exec1 o.th (oc.prog.getD j (0, 0, 0)) } : PwS).setOp a { o.pos c oc.stage j with next := j + 1 } = ({ σ with dev := σ.dev.exec1 o.th (oc.prog.getD j (0, 0, 0)) } : PwS).setOp a (o.pos c oc.stage (j + 1)) := by
  refine PwS.ext' rfl rfl rfl (fun b => ?_)
  show (if b = a then _ else if b = a then _ else σ.ops b) = if b = a then _ else σ.ops b
  split
  · rfl
  · rfl
 rw [e2]
 rfl
theorem key_pos (o : OpS) (c s j : Nat) : (o.pos c s j).key = o.key := rfl
theorem key_setOp (σ : PwS) (ha : σ.ops a = some o) (h : oc'.key = o.key) (b : Nat) : ((σ.setOp a oc').ops b).map OpS.key = (σ.ops b).map OpS.key := by
 show (if b = a then some oc' else σ.ops b).map OpS.key = _
 split
 · rename_i hb; rw [hb, ha]; simp [h]
 · rfl
/-- The words after the current operation's words are stored. -/
theorem stored (hok : OpOk cnt n M oc) (h : CurOk sum at0 M oc xs L) (h3 : oc.stage = 3) (hall : ∀ q, q < oc.es.length → xs[wdE oc.es q]? = some ((oc.es.getD q E0).after (gt0 oc.seen q))) : satL L oc.es = true ∧ ∀ k, M k → xs[k]? = some (appL L oc.es k) := by
 rcases h with ⟨h, _⟩ | ⟨h, _⟩ | ⟨h, h2, _, h4, _⟩ | ⟨h, _⟩
 · omega
 · omega
 · refine ⟨by unfold satL; rw [List.all_eq_true]; intro q hq; exact (h2 q (by simpa using hq)).2, fun k hk => ?_⟩
   by_cases hq : ∃ q, q < oc.es.length ∧ wdE oc.es q = k
   · obtain ⟨q, hq, rfl⟩ := hq
     rw [hall q hq, appL_at hok hq, (h2 q hq).1]
   · rw [appL_ne (fun q hq' he => hq ⟨q, hq', he⟩)]
     exact h4 k hk (fun q hq' he => hq ⟨q, hq', he⟩)
 · omega
theorem appL_range (hok : OpOk cnt n M oc) (hL : ∀ k, M k → 0 ≤ L k ∧ L k < 4611686018427387904) : ∀ k, M k → 0 ≤ appL L oc.es k ∧ appL L oc.es k < 4611686018427387904 := by
 intro k hk
 by_cases hq : ∃ q, q < oc.es.length ∧ wdE oc.es q = k
 · obtain ⟨q, hq, rfl⟩ := hq
   rw [appL_at hok hq]
   exact Ent.after_range _ _ (hok.at_ hq).new
 · rw [appL_ne (fun q hq' he => hq ⟨q, hq', he⟩)]; exact hL k hk
/-- An instruction of the current operation. -/
theorem Inv.adv1 (h : Inv sum at0 n cnt M N σ xs L) (hR : RegOk n cnt M at0) (hN : N < 1000000) (ha : σ.ops a = some o) (hc : σ.cur = some c) (hoc : σ.ops c = some oc) (hs : oc.stage ≠ 0) :
 ∃ xs' L', Inv sum at0 n cnt M (N + 1) (σ.adv sum at0 a o c oc) xs' L' ∧ Eff a σ (σ.adv sum at0 a o c oc) L L' := by
 obtain ⟨oc2, g1, g2, g3, g4⟩ := h.run c hc
 rw [hoc] at g1
 injection g1 with g1
 subst g1
 obtain ⟨h1, h4, hp⟩ := g4.info hs
 have hok := h.ok c oc hoc
 obtain ⟨ws, hw, _⟩ := progInfo (sum := sum) hR hok h1 h4
 have hl0 : 0 < oc.prog.length := by rw [hp, hw, length_storesX]; omega
 obtain ⟨hj, hj3⟩ := h.jat ha hc hoc h1 hl0
 have hth := (h.ok a o ha).th
 obtain ⟨j, hje⟩ : ∃ j, o.jat c oc.stage = j := ⟨_, rfl⟩
 obtain ⟨hv, hI, hlast, _⟩ := insOk (sum := sum) (xs := xs) hR hok h.on.length h1 h4 hp (j := j) (by rw [← hje]; exact hj)
 have hon := h.on.ins o.th hth hN hv
 have hcur' := g4.ins hs hI hok
 have hD := h.setD hc hoc hon hcur' hI.aft
 rw [adv_eq σ a o c oc hs (by rw [hje]; exact hon.err _)]
 rw [hje] at hj hj3 ⊢
 obtain ⟨xs', hxs⟩ : ∃ xs', insX xs (oc.prog.getD j (0, 0, 0)) = xs' := ⟨_, rfl⟩
 obtain ⟨D', hD'⟩ : ∃ D', σ.dev.exec1 o.th (oc.prog.getD j (0, 0, 0)) = D' := ⟨_, rfl⟩
 rw [hxs] at hI hon hcur' hD
 rw [hD'] at hon hD ⊢
 have hnow : oc.stage = 3 → ∀ q, q < j + 1 → q < oc.es.length → xs'[wdE oc.es q]? = some ((oc.es.getD q E0).after (gt0 oc.seen q)) := fun e q hq hql => by
  by_cases hqj : q = j
  · subst hqj; exact hI.now e hql
  · exact hI.aft e q hql (hj3 e q (by omega) hql)
 by_cases hjl : j + 1 = oc.prog.length
 · rw [if_pos hjl]
   unfold PwS.enter
   by_cases h4' : oc.stage + 1 ≤ 4
   · rw [if_pos h4']
     have mk : ∀ L', (∀ k, M k → 0 ≤ L' k ∧ L' k < 4611686018427387904) → CurOk sum at0 M { oc with stage := oc.stage + 1, prog := oc.progOf sum at0 (oc.stage + 1) } xs' L' →
      Inv sum at0 n cnt M (N + 1) ((({ σ with dev := D' } : PwS).setOp a (o.pos c oc.stage (j + 1))).setOp c { (if c = a then o.pos c oc.stage (j + 1) else oc) with stage := oc.stage + 1, prog := (if c = a then o.pos c oc.stage (j + 1) else oc).progOf sum at0 (oc.stage + 1) }) xs' L' := by
      intro L' hL' hCur
      have hC := hD.setC (oc' := { oc with stage := oc.stage + 1, prog := oc.progOf sum at0 (oc.stage + 1) }) hc hoc ⟨hok.th, hok.k, hok.l1, hok.l6, hok.ent, hok.nd, hok.perm, hok.sl, hok.sr⟩ rfl rfl rfl (.inl (Nat.lt_succ_self _)) (Nat.le_succ _) g3 hon hL' (some c) (.inl ⟨rfl, g2, hCur⟩)
      by_cases hca : c = a
      · subst hca
        rw [ha] at hoc
        injection hoc with hoc
        subst hoc
        have hA := hC.setA (c := c) (a := c) (oc := { o with stage := o.stage + 1, prog := o.progOf sum at0 (o.stage + 1) }) (o := { o with stage := o.stage + 1, prog := o.progOf sum at0 (o.stage + 1) }) (s := o.stage) (j := j + 1) (if_pos rfl) (if_pos rfl) (Nat.le_succ _) (fun _ he => absurd he (by show ¬ o.stage = o.stage + 1; omega))
        have e : (((({ σ with dev := D' } : PwS).setOp c (o.pos c o.stage (j + 1))).setOp c { (if c = c then o.pos c o.stage (j + 1) else o) with stage := o.stage + 1, prog := (if c = c then o.pos c o.stage (j + 1) else o).progOf sum at0 (o.stage + 1) })) = ({ ({ σ with dev := D' } : PwS).setOp c { o with stage := o.stage + 1, prog := o.progOf sum at0 (o.stage + 1) } with dev := D', cur := some c } : PwS).setOp c (OpS.pos { o with stage := o.stage + 1, prog := o.progOf sum at0 (o.stage + 1) } c o.stage (j + 1)) := by
         refine PwS.ext' rfl rfl hc (fun b => ?_)
         show (if b = c then _ else if b = c then _ else σ.ops b) = if b = c then _ else if b = c then _ else σ.ops b
         rw [if_pos rfl]
         split <;> rfl
        rw [e]; exact hA
      · have hA := hC.setA (c := c) (a := a) (oc := { oc with stage := oc.stage + 1, prog := oc.progOf sum at0 (oc.stage + 1) }) (o := o) (s := oc.stage) (j := j + 1) (if_pos rfl) ((if_neg (fun he => hca he.symm)).trans ha) (Nat.le_succ _) (fun _ he => absurd he (by show ¬ oc.stage = oc.stage + 1; omega))
        have e : (((({ σ with dev := D' } : PwS).setOp a (o.pos c oc.stage (j + 1))).setOp c { (if c = a then o.pos c oc.stage (j + 1) else oc) with stage := oc.stage + 1, prog := (if c = a then o.pos c oc.stage (j + 1) else oc).progOf sum at0 (oc.stage + 1) })) = ({ ({ σ with dev := D' } : PwS).setOp c { oc with stage := oc.stage + 1, prog := oc.progOf sum at0 (oc.stage + 1) } with dev := D', cur := some c } : PwS).setOp a (o.pos c oc.stage (j + 1)) := by
         refine PwS.ext' rfl rfl hc (fun b => ?_)
         show (if b = c then _ else if b = a then _ else σ.ops b) = if b = a then _ else if b = c then _ else σ.ops b
         rw [if_neg hca]
         by_cases hb : b = c
         · subst hb; rw [if_pos rfl, if_neg hca, if_pos rfl]
         · rw [if_neg hb, if_neg hb]
        rw [e]; exact hA
     have hkey : ∀ v, ({ (if c = a then o.pos c oc.stage (j + 1) else oc) with stage := oc.stage + 1, prog := (if c = a then o.pos c oc.stage (j + 1) else oc).progOf sum at0 (oc.stage + 1) } : OpS).key = (oc.es, oc.th, oc.k, v) ↔ ({ oc with stage := oc.stage + 1, prog := oc.progOf sum at0 (oc.stage + 1) } : OpS).key = (oc.es, oc.th, oc.k, v) := by
      intro v
      by_cases hca : c = a
      · subst hca
        rw [ha] at hoc
        injection hoc with hoc
        subst hoc
        rw [if_pos rfl]; exact Iff.rfl
      · rw [if_neg hca]
     by_cases h3 : oc.stage = 3
     · obtain ⟨s1, s2⟩ := stored hok hcur' h3 (fun q hq => hnow h3 q (by have := hlast h3 hjl; omega) hq)
       have hr : ({ oc with stage := oc.stage + 1, prog := oc.progOf sum at0 (oc.stage + 1) } : OpS).key = (oc.es, oc.th, oc.k, some true) := by
        show (oc.es, oc.th, oc.k, _) = _
        unfold OpS.res
        rw [if_neg (by show ¬ oc.done = true; rw [g2]; simp), if_pos (by show 4 ≤ oc.stage + 1; omega)]
       have hk2 := (hkey _).2 hr
       refine ⟨xs', appL L oc.es, mk _ (appL_range hok h.hL) (.inr (.inr (.inr ⟨by show oc.stage + 1 = 4; omega, by rw [show oc.stage + 1 = 4 by omega]; rfl, s2⟩))), .inr ⟨c, oc, _, hoc, if_pos rfl, ?_, ?_, ?_, ?_, ?_, ?_, .inl hc, g3, fun b hb => ?_⟩⟩
       · unfold OpS.res; rw [if_neg (by rw [g2]; simp), if_neg (by omega)]
       · rw [s1]; exact congrArg (fun x => x.2.2.2) hk2
       · rw [s1]; rfl
       · exact congrArg (fun x => x.1) hk2
       · exact congrArg (fun x => x.2.1) hk2
       · exact congrArg (fun x => x.2.2.1) hk2
       · show (if b = c then _ else ((({ σ with dev := D' } : PwS).setOp a (o.pos c oc.stage (j + 1))).ops b)).map OpS.key = _
         rw [if_neg hb]
         exact key_setOp ({ σ with dev := D' } : PwS) ha (key_pos _ _ _ _) b
     · have hr : ({ oc with stage := oc.stage + 1, prog := oc.progOf sum at0 (oc.stage + 1) } : OpS).key = (oc.es, oc.th, oc.k, none) := by
        show (oc.es, oc.th, oc.k, _) = _
        unfold OpS.res
        rw [if_neg (by show ¬ oc.done = true; rw [g2]; simp), if_neg (by show ¬ 4 ≤ oc.stage + 1; omega)]
       have hr0 : oc.key = (oc.es, oc.th, oc.k, none) := by
        show (oc.es, oc.th, oc.k, _) = _
        unfold OpS.res
        rw [if_neg (by rw [g2]; simp), if_neg (by omega)]
       have hk2 := (hkey _).2 hr
       refine ⟨xs', L, mk _ h.hL ?_, .inl ⟨rfl, fun b => ?_⟩⟩
       · rcases hcur' with ⟨e, _⟩ | ⟨e, f2, f3, f4⟩ | ⟨e, _⟩ | ⟨e, _⟩
         · exact absurd e hs
         · by_cases e1 : oc.stage = 1
           · exact .inr (.inl ⟨.inr (by show oc.stage + 1 = 2; omega), f2, rfl, f4⟩)
           · refine .inr (.inr (.inl ⟨by show oc.stage + 1 = 3; omega, f2, by rw [show oc.stage + 1 = 3 by omega]; rfl, fun k hk _ => f4 k hk, fun q hq => .inl (f4 _ (hok.wd hq).1)⟩))
         · exact absurd e h3
         · omega
       · show (if b = c then some _ else ((({ σ with dev := D' } : PwS).setOp a (o.pos c oc.stage (j + 1))).ops b)).map OpS.key = _
         by_cases hb : b = c
         · subst hb
           rw [if_pos rfl, hoc, Option.map_some, Option.map_some, hk2, hr0]
         · rw [if_neg hb]
           exact key_setOp ({ σ with dev := D' } : PwS) ha (key_pos _ _ _ _) b
   · rw [if_neg h4']
     have h44 : oc.stage = 4 := by omega
     unfold PwS.fin
     have hM : ∀ k, M k → xs'[k]? = some (L k) := by
      rcases hcur' with ⟨e, _⟩ | ⟨e, _⟩ | ⟨e, _⟩ | ⟨e, _, f⟩
      · omega
      · omega
      · omega
      · exact f
     have hC := hD.setC (oc' := { oc with stage := oc.stage + 1, done := true, changed := true }) hc hoc ⟨hok.th, hok.k, hok.l1, hok.l6, hok.ent, hok.nd, hok.perm, hok.sl, hok.sr⟩ rfl rfl rfl (.inl (Nat.lt_succ_self _)) (Nat.le_succ _) g3 hon h.hL none (.inr ⟨rfl, rfl, hM⟩)
     have hr0 : oc.key = (oc.es, oc.th, oc.k, some true) := by
      show (oc.es, oc.th, oc.k, _) = _
      unfold OpS.res
      rw [if_neg (by rw [g2]; simp), if_pos (by omega)]
     by_cases hca : c = a
     · subst hca
       rw [ha] at hoc
       injection hoc with hoc
       subst hoc
       have hA := hC.setA (c := c) (a := c) (oc := { o with stage := o.stage + 1, done := true, changed := true }) (o := { o with stage := o.stage + 1, done := true, changed := true }) (s := o.stage) (j := j + 1) (if_pos rfl) (if_pos rfl) (Nat.le_succ _) (fun hh => by cases hh)
       refine ⟨xs', L, ?_, .inl ⟨rfl, fun b => ?_⟩⟩
       · have e : ({ (({ σ with dev := D' } : PwS).setOp c (o.pos c o.stage (j + 1))).setOp c { { (if c = c then o.pos c o.stage (j + 1) else o) with stage := o.stage + 1 } with done := true, changed := true } with cur := none } : PwS) = ({ ({ σ with dev := D' } : PwS).setOp c { o with stage := o.stage + 1, done := true, changed := true } with dev := D', cur := none } : PwS).setOp c (OpS.pos { o with stage := o.stage + 1, done := true, changed := true } c o.stage (j + 1)) := by
          refine PwS.ext' rfl rfl rfl (fun b => ?_)
          show (if b = c then _ else if b = c then _ else σ.ops b) = if b = c then _ else if b = c then _ else σ.ops b
          rw [if_pos rfl]
          split <;> rfl
         rw [e]; exact hA
       · show (if b = c then some _ else if b = c then _ else σ.ops b).map OpS.key = _
         by_cases hb : b = c
         · subst hb
           rw [if_pos rfl, if_pos rfl, ha, Option.map_some, Option.map_some, hr0]
           rfl
         · rw [if_neg hb, if_neg hb]
     · have hA := hC.setA (c := c) (a := a) (oc := { oc with stage := oc.stage + 1, done := true, changed := true }) (o := o) (s := oc.stage) (j := j + 1) (if_pos rfl) ((if_neg (fun he => hca he.symm)).trans ha) (Nat.le_succ _) (fun hh => by cases hh)
       refine ⟨xs', L, ?_, .inl ⟨rfl, fun b => ?_⟩⟩
       · have e : ({ (({ σ with dev := D' } : PwS).setOp a (o.pos c oc.stage (j + 1))).setOp c { { (if c = a then o.pos c oc.stage (j + 1) else oc) with stage := oc.stage + 1 } with done := true, changed := true } with cur := none } : PwS) = ({ ({ σ with dev := D' } : PwS).setOp c { oc with stage := oc.stage + 1, done := true, changed := true } with dev := D', cur := none } : PwS).setOp a (o.pos c oc.stage (j + 1)) := by
          refine PwS.ext' rfl rfl rfl (fun b => ?_)
          show (if b = c then _ else if b = a then _ else σ.ops b) = if b = a then _ else if b = c then _ else σ.ops b
          rw [if_neg hca]
          by_cases hb : b = c
          · subst hb; rw [if_pos rfl, if_neg hca, if_pos rfl]
          · rw [if_neg hb, if_neg hb]
         rw [e]; exact hA
       · show (if b = c then some _ else if b = a then _ else σ.ops b).map OpS.key = _
         by_cases hb : b = c
         · subst hb
           rw [if_pos rfl, if_neg hca, hoc, Option.map_some, Option.map_some, hr0]
           rfl
         · rw [if_neg hb]
           exact key_setOp ({ σ with dev := D' } : PwS) ha (key_pos _ _ _ _) b
 · rw [if_neg hjl]
   refine ⟨xs', L, hD.setA hoc ha (Nat.le_refl _) (fun _ _ => ⟨by omega, hnow⟩), .inl ⟨rfl, fun b => key_setOp ({ σ with dev := D' } : PwS) ha (key_pos _ _ _ _) b⟩⟩
end
section
variable {sum : List Int → Int} {at0 : Nat → Int} {n cnt N N' : Nat} {M : Nat → Prop} {σ σ' σ2 : PwS} {xs xs' : List Int} {L L' : Nat → Int} {a c : Nat} {o oc oc' : OpS} {D D' : DevS}
theorem Inv.mono (h : Inv sum at0 n cnt M N σ xs L) (hN : N ≤ N') : Inv sum at0 n cnt M N' σ xs L := ⟨h.on.mono hN, h.hL, h.ok, h.idle, h.run, h.fresh, h.pos, h.inn, h.fin⟩
theorem On.load_at (h : On D n xs N) {k : Nat} (hk : k < 8 * n) {v : Int} (hv : xs[k]? = some v) (i : Nat) : D.on i (D.wordB (8 * (k : Int))) = D ∧ D.load (8 * (k : Int)) = v := by
 have hw : D.wordB (8 * (k : Int)) = true := by unfold DevS.wordB; rw [h.nl]; simp; omega
 refine ⟨by unfold DevS.on; rw [h.off, hw]; simp, ?_⟩
 unfold DevS.load
 rw [hw, show D.onB true = true by simp [DevS.onB, h.off], if_pos rfl, h.cur, show (8 * (k : Int) / 8).toNat = k by omega, hv]
 rfl
theorem load_eq (h : On σ.dev n xs N) {q k i : Nat} (hq : oc.order.getD oc.loaded 0 = q) (hk : (oc.es.getD q E0).off = 8 * (k : Int)) (hkn : k < 8 * n) {v : Int} (hv : xs[k]? = some v) :
 σ.load sum at0 c oc i = if (oc.es.getD q E0).sat v then (if oc.loaded + 1 = oc.order.length then (σ.setOp c { oc with seen := oc.seen.set q v, loaded := oc.loaded + 1 }).enter sum at0 c { oc with seen := oc.seen.set q v, loaded := oc.loaded + 1 } 1 else σ.setOp c { oc with seen := oc.seen.set q v, loaded := oc.loaded + 1 }) else σ.fin c oc false := by
 obtain ⟨e1, e2⟩ := h.load_at hkn hv i
 unfold PwS.load
 simp only [hq]
 rw [show (oc.es.getD q ⟨0, 0, 0, false⟩) = oc.es.getD q E0 from rfl, hk, e1, e2]
 have e3 : ({ σ with dev := σ.dev } : PwS) = σ := rfl
 rw [e3, if_neg (by rw [h.err]; simp)]
theorem gt0_set {ys : List Int} {q : Nat} (hq : q < ys.length) (v : Int) (p : Nat) : gt0 (ys.set q v) p = if p = q then v else gt0 ys p := by
 unfold gt0
 by_cases hp : p = q
 · subst hp; simp [hq]
 · simp [List.getElem?_set, hp, show ¬ q = p from fun h => hp h.symm]
/-- A word of the current operation is loaded. -/
theorem Inv.load1 (h : Inv sum at0 n cnt M N σ xs L) (hc : σ.cur = some c) (hoc : σ.ops c = some oc) (hs : oc.stage = 0) (i : Nat) :
 Inv sum at0 n cnt M N (σ.load sum at0 c oc i) xs L ∧ Eff a σ (σ.load sum at0 c oc i) L L := by
 obtain ⟨oc2, g1, g2, g3, g4⟩ := h.run c hc
 rw [hoc] at g1
 injection g1 with g1
 subst g1
 have hok := h.ok c oc hoc
 have hr0 : oc.res = none := by unfold OpS.res; rw [if_neg (by rw [g2]; simp), if_neg (by omega)]
 rcases g4 with ⟨_, hl, hse, hM⟩ | ⟨e, _⟩ | ⟨e, _⟩ | ⟨e, _⟩
 rotate_left
 · omega
 · omega
 · omega
 obtain ⟨q, hq⟩ : ∃ q, oc.order.getD oc.loaded 0 = q := ⟨_, rfl⟩
 have hql : q < oc.es.length := by rw [← hq]; exact hok.order_get hl
 obtain ⟨w1, w2, w3⟩ := hok.wd hql
 have hv := hM _ w1
 rw [load_eq h.on hq w3 w2 hv]
 have hqs : q < oc.seen.length := by rw [hok.sl]; exact hql
 have hgs := gt0_set hqs (L (wdE oc.es q))
 cases hsat : (oc.es.getD q E0).sat (L (wdE oc.es q)) with
 | false =>
  rw [if_neg (by simp)]
  unfold PwS.fin
  have hC := h.setC (oc' := { oc with done := true, changed := false }) hc hoc ⟨hok.th, hok.k, hok.l1, hok.l6, hok.ent, hok.nd, hok.perm, hok.sl, hok.sr⟩ rfl rfl rfl (.inr hs) (Nat.le_refl _) g3 h.on h.hL none (.inr ⟨rfl, rfl, hM⟩)
  have hf : satL L oc.es = false := by
   unfold satL
   rw [List.all_eq_false]
   exact ⟨q, by simpa using hql, by rw [hsat]; simp⟩
  refine ⟨hC, .inr ⟨c, oc, { oc with done := true, changed := false }, hoc, if_pos rfl, hr0, by rw [hf]; rfl, by rw [hf]; rfl, rfl, rfl, rfl, .inl hc, g3, fun b hb => ?_⟩⟩
  show (if b = c then _ else σ.ops b).map OpS.key = _
  rw [if_neg hb]
 | true =>
  rw [if_pos rfl]
  have hokn : OpOk cnt n M { oc with seen := oc.seen.set q (L (wdE oc.es q)), loaded := oc.loaded + 1 } := by
   refine ⟨hok.th, hok.k, hok.l1, hok.l6, hok.ent, hok.nd, hok.perm, by show (oc.seen.set _ _).length = _; rw [List.length_set]; exact hok.sl, fun p => ?_⟩
   show 0 ≤ gt0 (oc.seen.set _ _) p ∧ gt0 (oc.seen.set _ _) p < _
   rw [hgs]
   split
   · exact h.hL _ w1
   · exact hok.sr p
  have hseen : ∀ j, j < oc.loaded + 1 → gt0 (oc.seen.set q (L (wdE oc.es q))) (oc.order.getD j 0) = L (wdE oc.es (oc.order.getD j 0)) ∧ (oc.es.getD (oc.order.getD j 0) E0).sat (L (wdE oc.es (oc.order.getD j 0))) = true := by
   intro j hj
   by_cases hjl : j = oc.loaded
   · subst hjl
     rw [hq, hgs, if_pos rfl]
     exact ⟨rfl, hsat⟩
   · have hne : oc.order.getD j 0 ≠ q := fun he => hjl (hok.order_inj (by omega) hl (by rw [he, hq]))
     rw [hgs, if_neg hne]
     exact hse j (by omega)
  by_cases hlast : oc.loaded + 1 = oc.order.length
  · rw [if_pos hlast]
    unfold PwS.enter
    rw [if_pos (by omega)]
    have hC := h.setC (oc' := { oc with seen := oc.seen.set q (L (wdE oc.es q)), loaded := oc.loaded + 1, stage := 1, prog := ({ oc with seen := oc.seen.set q (L (wdE oc.es q)), loaded := oc.loaded + 1 } : OpS).progOf sum at0 1 }) hc hoc ⟨hok.th, hok.k, hok.l1, hok.l6, hok.ent, hok.nd, hok.perm, hokn.sl, hokn.sr⟩ rfl rfl rfl (.inl (by show oc.stage < 1; omega)) (by show oc.stage ≤ 1; omega) g3 h.on h.hL (some c)
     (.inl ⟨rfl, g2, .inr (.inl ⟨.inl rfl, fun p hp => by
      obtain ⟨j, hj, he⟩ := hok.order_all (q := p) hp
      have := hseen j (by omega)
      rw [he] at this
      exact this, rfl, hM⟩)⟩)
    have e : (σ.setOp c { oc with seen := oc.seen.set q (L (wdE oc.es q)), loaded := oc.loaded + 1 }).setOp c { { oc with seen := oc.seen.set q (L (wdE oc.es q)), loaded := oc.loaded + 1 } with stage := 1, prog := ({ oc with seen := oc.seen.set q (L (wdE oc.es q)), loaded := oc.loaded + 1 } : OpS).progOf sum at0 1 } = { σ.setOp c { oc with seen := oc.seen.set q (L (wdE oc.es q)), loaded := oc.loaded + 1, stage := 1, prog := ({ oc with seen := oc.seen.set q (L (wdE oc.es q)), loaded := oc.loaded + 1 } : OpS).progOf sum at0 1 } with dev := σ.dev, cur := some c } := by
     refine PwS.ext' rfl rfl hc (fun b => ?_)
     show (if b = c then _ else if b = c then _ else σ.ops b) = if b = c then _ else σ.ops b
     split <;> rfl
    rw [e]
    refine ⟨hC, .inl ⟨rfl, fun b => ?_⟩⟩
    refine key_setOp σ hoc ?_ b
    show (oc.es, oc.th, oc.k, OpS.res _) = (oc.es, oc.th, oc.k, oc.res)
    rw [hr0]
    unfold OpS.res
    rw [if_neg (by show ¬ oc.done = true; rw [g2]; simp), if_neg (by show ¬ 4 ≤ 1; omega)]
  · rw [if_neg hlast]
    have hC := h.setC (oc' := { oc with seen := oc.seen.set q (L (wdE oc.es q)), loaded := oc.loaded + 1 }) hc hoc hokn rfl rfl rfl (.inr hs) (Nat.le_refl _) g3 h.on h.hL (some c)
     (.inl ⟨rfl, g2, .inl ⟨hs, by show oc.loaded + 1 < oc.order.length; omega, hseen, hM⟩⟩)
    have e : σ.setOp c { oc with seen := oc.seen.set q (L (wdE oc.es q)), loaded := oc.loaded + 1 } = { σ.setOp c { oc with seen := oc.seen.set q (L (wdE oc.es q)), loaded := oc.loaded + 1 } with dev := σ.dev, cur := some c } := PwS.ext' rfl rfl hc (fun b => rfl)
    rw [e]
    exact ⟨hC, .inl ⟨rfl, fun b => key_setOp (oc' := { oc with seen := oc.seen.set q (L (wdE oc.es q)), loaded := oc.loaded + 1 }) σ hoc rfl b⟩⟩
/-- An instruction by an operation's thread. -/
theorem Inv.adv (h : Inv sum at0 n cnt M N σ xs L) (hR : RegOk n cnt M at0) (hN : N < 1000000) (ha : σ.ops a = some o) (hc : σ.cur = some c) (hoc : σ.ops c = some oc) :
 ∃ xs' L', Inv sum at0 n cnt M (N + 1) (σ.adv sum at0 a o c oc) xs' L' ∧ Eff a σ (σ.adv sum at0 a o c oc) L L' := by
 by_cases hs : oc.stage = 0
 · obtain ⟨h1, h2⟩ := h.load1 (a := a) hc hoc hs o.th
   have e : σ.adv sum at0 a o c oc = σ.load sum at0 c oc o.th := by unfold PwS.adv; rw [if_pos hs]
   rw [e]
   exact ⟨xs, L, h1.mono (Nat.le_succ _), h2⟩
 · exact h.adv1 hR hN ha hc hoc hs
def OpS.fl (o : OpS) : Bool × Int × Nat := (o.ended, o.err, o.k)
/-- Nothing has ended. -/
def SameFl (σ σ' : PwS) : Prop := σ'.busy = σ.busy ∧ ∀ b, (σ'.ops b).map OpS.fl = (σ.ops b).map OpS.fl
theorem SameFl.refl (σ : PwS) : SameFl σ σ := ⟨rfl, fun _ => rfl⟩
theorem SameFl.trans (h : SameFl σ σ') (h2 : SameFl σ' σ2) : SameFl σ σ2 := ⟨h2.1.trans h.1, fun b => (h2.2 b).trans (h.2 b)⟩
theorem SameFl.dev (D : DevS) : SameFl σ { σ with dev := D } := ⟨rfl, fun _ => rfl⟩
theorem SameFl.cur (c : Option Nat) : SameFl σ { σ with cur := c } := ⟨rfl, fun _ => rfl⟩
theorem SameFl.set (ha : (σ.ops a).map OpS.fl = some o.fl) : SameFl σ (σ.setOp a o) := by
 refine ⟨rfl, fun b => ?_⟩
 show (if b = a then some o else σ.ops b).map OpS.fl = _
 split
 · rename_i hb; rw [hb, ha]; rfl
 · rfl
theorem SameFl.at_ (h : SameFl σ σ') (ha : (σ.ops a).map OpS.fl = some o.fl) : (σ'.ops a).map OpS.fl = some o.fl := (h.2 a).trans ha
theorem fin_fl (hoc : (σ.ops c).map OpS.fl = some oc.fl) (ch : Bool) : SameFl σ (σ.fin c oc ch) := (SameFl.set (o := { oc with done := true, changed := ch }) hoc).trans (SameFl.cur none)
theorem enter_fl (hoc : (σ.ops c).map OpS.fl = some oc.fl) (s : Nat) : SameFl σ (σ.enter sum at0 c oc s) := by
 unfold PwS.enter
 split
 · exact SameFl.set hoc
 · exact fin_fl (oc := { oc with stage := s }) hoc true
theorem adv_fl (ha : σ.ops a = some o) (hoc : σ.ops c = some oc) : SameFl σ (σ.adv sum at0 a o c oc) := by
 have hoc' : (σ.ops c).map OpS.fl = some oc.fl := by rw [hoc]; rfl
 have ha' : (σ.ops a).map OpS.fl = some o.fl := by rw [ha]; rfl
 unfold PwS.adv
 split
 · unfold PwS.load
   dsimp only
   split
   · exact SameFl.dev _
   · split
     · split
       · have h1 : SameFl σ ({ σ with dev := σ.dev.on o.th (σ.dev.wordB (oc.es.getD (oc.order.getD oc.loaded 0) ⟨0, 0, 0, false⟩).off) } : PwS) := SameFl.dev _
         have h2 := h1.trans (SameFl.set (o := { oc with seen := oc.seen.set (oc.order.getD oc.loaded 0) (σ.dev.load (oc.es.getD (oc.order.getD oc.loaded 0) ⟨0, 0, 0, false⟩).off), loaded := oc.loaded + 1 }) (h1.at_ (o := oc) hoc'))
         exact h2.trans (enter_fl (oc := { oc with seen := oc.seen.set (oc.order.getD oc.loaded 0) (σ.dev.load (oc.es.getD (oc.order.getD oc.loaded 0) ⟨0, 0, 0, false⟩).off), loaded := oc.loaded + 1 }) (h2.at_ (o := oc) hoc') _)
       · exact (SameFl.dev _).trans (SameFl.set hoc')
     · exact (SameFl.dev _).trans (fin_fl (σ := { σ with dev := _ }) hoc' _)
 · rw [OpS.pos_at]
   dsimp only
   have h1 : SameFl σ (σ.setOp a (o.pos c oc.stage (o.jat c oc.stage))) := SameFl.set ha'
   have h2 := h1.trans (SameFl.dev (σ.dev.exec1 o.th (oc.prog.getD (o.pos c oc.stage (o.jat c oc.stage)).next (0, 0, 0))))
   split
   · exact h2
   · have h3 := h2.trans (SameFl.set (a := a) (o := { o.pos c oc.stage (o.jat c oc.stage) with next := (o.pos c oc.stage (o.jat c oc.stage)).next + 1 }) (h2.at_ (o := o) ha'))
     split
     · refine h3.trans (enter_fl ?_ _)
       split
       · rename_i hca
         subst hca; exact h3.at_ (o := o) ha'
       · exact h3.at_ (o := oc) hoc'
     · exact h3
theorem Eff.keys (h : Eff a σ σ' L L') (hk : ∀ b, (σ2.ops b).map OpS.key = (σ'.ops b).map OpS.key) : Eff a σ σ2 L L' := by
 rcases h with ⟨h1, h2⟩ | ⟨c, oc, oc', h1, h2, h3, h4, h5, h6, h7, h8, h9, h10, h11⟩
 · exact .inl ⟨h1, fun b => (hk b).trans (h2 b)⟩
 · have := hk c
   rw [h2, Option.map_some] at this
   cases hc : σ2.ops c with
   | none => rw [hc] at this; cases this
   | some oc'' =>
    rw [hc, Option.map_some] at this
    injection this with this
    have e1 : oc''.es = oc'.es := congrArg (fun x => x.1) this
    have e2 : oc''.th = oc'.th := congrArg (fun x => x.2.1) this
    have e3 : oc''.k = oc'.k := congrArg (fun x => x.2.2.1) this
    have e4 : oc''.res = oc'.res := congrArg (fun x => x.2.2.2) this
    exact .inr ⟨c, oc, oc'', h1, hc, h3, e4.trans h4, h5, e1.trans h6, e2.trans h7, e3.trans h8, h9, h10, fun b hb => (hk b).trans (h11 b hb)⟩
theorem Eff.sm (h : Eff a σ σ' L L') {b : Nat} {ob : OpS} (hb : σ.ops b = some ob) : ∃ ob', σ'.ops b = some ob' ∧ ob'.es = ob.es ∧ ob'.th = ob.th ∧ ob'.k = ob.k := by
 have key : (σ'.ops b).map OpS.key = (σ.ops b).map OpS.key → ∃ ob', σ'.ops b = some ob' ∧ ob'.es = ob.es ∧ ob'.th = ob.th ∧ ob'.k = ob.k := by
  intro he
  rw [hb, Option.map_some] at he
  cases hb' : σ'.ops b with
  | none => rw [hb'] at he; cases he
  | some ob' =>
   rw [hb', Option.map_some] at he
   injection he with he
   exact ⟨ob', rfl, congrArg (fun x => x.1) he, congrArg (fun x => x.2.1) he, congrArg (fun x => x.2.2.1) he⟩
 rcases h with ⟨h1, h2⟩ | ⟨c, oc, oc', h1, h2, h3, h4, h5, h6, h7, h8, h9, h10, h11⟩
 · exact key (h2 b)
 · by_cases hbc : b = c
   · subst hbc
     rw [h1] at hb
     injection hb with hb
     subst hb
     exact ⟨oc', h2, h6, h7, h8⟩
   · exact key (h11 b hbc)
/-- What a step leaves. -/
structure StepOk (sum : List Int → Int) (at0 : Nat → Int) (n cnt : Nat) (M : Nat → Prop) (N : Nat) (a : Nat) (o : OpS) (σ : PwS) (L : Nat → Int) (σ' : PwS) (b : Bool) (xs' : List Int) (L' : Nat → Int) : Prop where
 eq : σ.step sum at0 a = (σ', b)
 inv : Inv sum at0 n cnt M N σ' xs' L'
 eff : Eff a σ σ' L L'
 self : ∃ o', σ'.ops a = some o' ∧ o'.ended = b ∧ o'.th = o.th ∧ o'.k = o.k ∧ o'.es = o.es ∧ (b = true → o.ended = false → o'.err = 0) ∧ (b = false → o'.err = o.err) ∧ (o.ended = true → o' = o)
 other : ∀ d, d ≠ a → (σ'.ops d).map OpS.fl = (σ.ops d).map OpS.fl
 busy : σ'.busy = if b && !o.ended then σ.busy.set o.k false else σ.busy
theorem Inv.step (h : Inv sum at0 n cnt M N σ xs L) (hR : RegOk n cnt M at0) (hN : N < 1000000) (ha : σ.ops a = some o) : ∃ σ' b xs' L', StepOk sum at0 n cnt M (N + 1) a o σ L σ' b xs' L' := by
 have herr : ∀ i, (σ.dev.thr i).err = 0 := h.on.err
 cases he : o.ended with
 | true =>
  refine ⟨σ, true, xs, L, ?_, h.mono (Nat.le_succ _), .inl ⟨rfl, fun _ => rfl⟩, ⟨o, ha, he, rfl, rfl, rfl, fun _ hh => (by rw [he] at hh; cases hh), fun hh => (by cases hh), fun _ => rfl⟩, fun _ _ => rfl, by rw [he]; rfl⟩
  unfold PwS.step; rw [ha]; simp [he]
 | false =>
  have hfend : ∀ {τ : PwS} {o1 : OpS} {ys : List Int} {L1 : Nat → Int}, Inv sum at0 n cnt M (N + 1) τ ys L1 → τ.ops a = some o1 → o1.done = true → o1.th = o.th → o1.k = o.k → o1.es = o.es → Eff a σ τ L L1 → SameFl σ τ →
   StepOk sum at0 n cnt M (N + 1) a o σ L (τ.fend a o1 0) true ys L1 ∨ σ.step sum at0 a ≠ (τ.fend a o1 0, true) := by
   intro τ o1 ys L1 hI h1 hd e1 e2 e3 hE hF
   by_cases hst : σ.step sum at0 a = (τ.fend a o1 0, true)
   · left
     have ef : τ.fend a o1 0 = { τ.setOp a { o1 with ended := true, err := 0 } with busy := τ.busy.set o1.k false } := by
      unfold PwS.fend; rw [if_neg (by simp [hd])]
     refine ⟨hst, by rw [ef]; exact hI.fend h1 hd _, ?_, ?_, fun d hd' => ?_, ?_⟩
     · rw [ef]
       exact hE.keys (fun b => key_setOp τ h1 (by show (o1.es, o1.th, o1.k, OpS.res _) = (o1.es, o1.th, o1.k, o1.res); simp [OpS.res, hd]) b)
     · rw [ef]
       exact ⟨{ o1 with ended := true, err := 0 }, if_pos rfl, rfl, e1, e2, e3, fun _ _ => rfl, fun hh => (by cases hh), fun hh => (by rw [he] at hh; cases hh)⟩
     · rw [ef]
       show (if d = a then _ else τ.ops d).map OpS.fl = _
       rw [if_neg hd']; exact hF.2 d
     · rw [ef]
       show τ.busy.set o1.k false = _
       rw [he, hF.1, e2]; rfl
   · exact .inr hst
  cases hd : o.done with
  | true =>
   have hst : σ.step sum at0 a = (σ.fend a o 0, true) := by
    unfold PwS.step; rw [ha]; simp [he, hd, herr]
   rcases hfend (h.mono (Nat.le_succ _)) ha hd rfl rfl rfl (.inl ⟨rfl, fun _ => rfl⟩) (SameFl.refl σ) with h1 | h1
   · exact ⟨_, _, _, _, h1⟩
   · exact absurd hst h1
  | false =>
   obtain ⟨σ0, c, hσ0, hc0, hI0, hops, hbus, hcc, hdev⟩ : ∃ σ0 c, σ0 = (if σ.cur.isSome then σ else { σ with cur := some a }) ∧ σ0.cur = some c ∧ Inv sum at0 n cnt M N σ0 xs L ∧ σ0.ops = σ.ops ∧ σ0.busy = σ.busy ∧ (σ.cur = some c ∨ c = a) ∧ σ0.dev = σ.dev := by
    cases hcur : σ.cur with
    | none => exact ⟨{ σ with cur := some a }, a, rfl, rfl, h.claim hcur ha hd, rfl, rfl, .inr rfl, rfl⟩
    | some c => exact ⟨σ, c, rfl, hcur, h, rfl, rfl, .inl rfl, rfl⟩
   obtain ⟨oc, g1, g2, g3, g4⟩ := hI0.run c hc0
   have ha0 : σ0.ops a = some o := by rw [hops]; exact ha
   obtain ⟨ys, L1, hI1, hE1⟩ := hI0.adv hR hN ha0 hc0 g1
   have hF1 : SameFl σ (σ0.adv sum at0 a o c oc) := by
    have h1 := adv_fl (sum := sum) (at0 := at0) ha0 g1
    exact ⟨h1.1.trans hbus, fun b => (h1.2 b).trans (by rw [hops])⟩
   have hE : Eff a σ (σ0.adv sum at0 a o c oc) L L1 := by
    rcases hE1 with ⟨q1, q2⟩ | ⟨c', oc1, oc', q1, q2, q3, q4, q5, q6, q7, q8, q9, q10, q11⟩
    · exact .inl ⟨q1, fun b => (q2 b).trans (by rw [hops])⟩
    · refine .inr ⟨c', oc1, oc', by rw [← hops]; exact q1, q2, q3, q4, q5, q6, q7, q8, ?_, q10, fun b hb => (q11 b hb).trans (by rw [hops])⟩
      rcases q9 with q9 | q9
      · rw [hc0] at q9
        injection q9 with q9
        rw [← q9]; exact hcc
      · exact .inr q9
   obtain ⟨o1, k1, k2, k3, k4⟩ := hE.sm ha
   obtain ⟨τ, hτ⟩ : ∃ τ, σ0.adv sum at0 a o c oc = τ := ⟨_, rfl⟩
   rw [hτ] at hI1 hE hF1 k1
   have hst : σ.step sum at0 a = if o1.done then (τ.fend a o1 0, true) else (τ, false) := by
    unfold PwS.step
    rw [ha]
    simp only [he, Bool.false_eq_true, if_false, hd, herr, ne_eq, not_true_eq_false]
    rw [← hσ0, hc0, Option.getD_some, g1]
    simp only [hτ, k1]
    rw [if_neg (by rw [hI1.on.err]; simp)]
   cases hd1 : o1.done with
   | true =>
    rw [hd1] at hst
    rcases hfend hI1 k1 hd1 k3 k4 k2 hE hF1 with h1 | h1
    · exact ⟨_, _, _, _, h1⟩
    · exact absurd hst h1
   | false =>
    rw [hd1] at hst
    have hfl : o1.fl = o.fl := by
     have := hF1.2 a
     rw [k1, ha] at this
     injection this
    refine ⟨τ, false, ys, L1, hst, hI1, hE, ⟨o1, k1, (congrArg (fun x => x.1) hfl).trans he, k3, k4, k2, fun hh => (by cases hh), fun _ => congrArg (fun x => x.2.1) hfl, fun hh => (by rw [he] at hh; cases hh)⟩, fun d _ => hF1.2 d, by rw [hF1.1]; rfl⟩
end
def OpS.rem (o : OpS) (c : Nat) (oc : OpS) : Nat := if oc.stage = 0 then 160 + (6 - oc.loaded) else 40 * (4 - oc.stage) + (38 - o.jat c oc.stage)
def gOp : Option (Nat × OpS) → Nat → OpS → Nat
 | none, _, o => (if o.ended then 0 else 1) + (if o.done then 0 else 601)
 | some (c, oc), b, o => (if o.ended then 0 else 1) + (if o.done then 0 else (if c = b then 1 else 601)) + o.rem c oc
def curO (σ : PwS) : Option (Nat × OpS) := σ.cur.bind fun c => (σ.ops c).map fun oc => (c, oc)
def gAt (σ : PwS) (b : Nat) : Nat := match σ.ops b with
 | none => 0
 | some o => gOp (curO σ) b o
def gSum (σ : PwS) (al : List Nat) : Nat := (al.map (gAt σ)).sum
theorem sum_le_add {f g : Nat → Nat} {m : Nat} : ∀ (al : List Nat), (∀ b ∈ al, f b ≤ g b + m) → (al.map f).sum ≤ (al.map g).sum + m * al.length
 | [], _ => by simp
 | x :: al, h => by
  have h1 := h x (by simp)
  have h2 := sum_le_add al (fun b hb => h b (by simp [hb]))
  simp only [List.map_cons, List.sum_cons, List.length_cons]
  rw [Nat.mul_succ]; omega
theorem sum_zero : ∀ (al : List Nat), (al.map fun _ => (0 : Nat)).sum = 0
 | [] => rfl
 | x :: al => by simpa using sum_zero al
theorem sum_step {f g : Nat → Nat} {a m K : Nat} : ∀ (al : List Nat), al.Nodup → a ∈ al → (∀ b ∈ al, b ≠ a → f b ≤ g b + m) → f a + K ≤ g a → (al.map f).sum + K ≤ (al.map g).sum + m * (al.length - 1)
 | [], _, h, _, _ => by simp at h
 | x :: al, hn, ha, h, hK => by
  rw [List.nodup_cons] at hn
  simp only [List.map_cons, List.sum_cons, List.length_cons, Nat.add_sub_cancel]
  by_cases hx : x = a
  · subst hx
    have h2 := sum_le_add (f := f) (g := g) (m := m) al (fun b hb => h b (by simp [hb]) (fun he => hn.1 (by rw [← he]; exact hb)))
    omega
  · have ha' : a ∈ al := by
     rcases List.mem_cons.1 ha with h1 | h1
     · exact absurd h1.symm hx
     · exact h1
    have h1 := h x (by simp) hx
    have h2 := sum_step al hn.2 ha' (fun b hb => h b (by simp [hb])) hK
    have hl : 0 < al.length := List.length_pos_of_mem ha'
    obtain ⟨l, hl'⟩ : ∃ l, al.length = l + 1 := ⟨al.length - 1, by omega⟩
    rw [hl'] at h2 ⊢
    rw [Nat.mul_succ]
    simp only [Nat.add_sub_cancel] at h2
    omega
section
variable {sum : List Int → Int} {at0 : Nat → Int} {n cnt N N' : Nat} {M : Nat → Prop} {σ σ' σ2 : PwS} {xs xs' : List Int} {L L' : Nat → Int} {a b c : Nat} {o o' oc oc' : OpS} {al : List Nat}
theorem curO_of (hc : σ.cur = some c) (hoc : σ.ops c = some oc) : curO σ = some (c, oc) := by unfold curO; rw [hc]; show (σ.ops c).map _ = _; rw [hoc]; rfl
theorem curO_none (hc : σ.cur = none) : curO σ = none := by unfold curO; rw [hc]; rfl
def DecA (a : Nat) (σ σ' : PwS) : Prop := ∀ b o', σ'.ops b = some o' → ∃ o, σ.ops b = some o ∧ gOp (curO σ') b o' ≤ gOp (curO σ) b o ∧ (b = a → gOp (curO σ') b o' < gOp (curO σ) b o)
theorem DecA.tot (h : DecA a σ σ') (hn : al.Nodup) (ha : a ∈ al) (h1 : σ'.ops a = some o) : gSum σ' al + 1 ≤ gSum σ al := by
 have := sum_step (f := gAt σ') (g := gAt σ) (m := 0) (K := 1) al hn ha (fun b hb _ => ?_) ?_
 · simpa [gSum] using this
 · unfold gAt
   cases hb' : σ'.ops b with
   | none => simp
   | some o' =>
    obtain ⟨o, e1, e2, _⟩ := h b o' hb'
    rw [e1]; exact e2
 · unfold gAt
   obtain ⟨o2, e1, _, e3⟩ := h a o h1
   rw [h1, e1]; exact e3 rfl
theorem DecA.of_cur (hc' : σ'.cur = some c) (hoc' : σ'.ops c = some oc') (h : ∀ b o', σ'.ops b = some o' → ∃ o, σ.ops b = some o ∧ gOp (some (c, oc')) b o' ≤ gOp (curO σ) b o ∧ (b = a → gOp (some (c, oc')) b o' < gOp (curO σ) b o)) : DecA a σ σ' := by
 intro b o' hb
 rw [curO_of hc' hoc']
 exact h b o' hb
theorem rem_pos (h : oc.stage ≠ 0 → o.jat c oc.stage ≤ 37) : 0 < o.rem c oc := by
 unfold OpS.rem
 split
 · omega
 · rename_i hs; have := h hs; omega
theorem Inv.jat_le (h : Inv sum at0 n cnt M N σ xs L) (hR : RegOk n cnt M at0) (hc : σ.cur = some c) (hoc : σ.ops c = some oc) (ha : σ.ops a = some o) (hs : oc.stage ≠ 0) : o.jat c oc.stage < oc.prog.length ∧ oc.prog.length ≤ 37 := by
 obtain ⟨oc2, g1, g2, g3, g4⟩ := h.run c hc
 rw [hoc] at g1
 injection g1 with g1
 subst g1
 obtain ⟨h1, h4, hp⟩ := g4.info hs
 have hok := h.ok c oc hoc
 obtain ⟨ws, hw, _⟩ := progInfo (sum := sum) hR hok h1 h4
 have hl0 : 0 < oc.prog.length := by rw [hp, hw, length_storesX]; omega
 have h5 := (insOk (sum := sum) (xs := xs) hR hok h.on.length h1 h4 hp (j := 0) hl0).2.2.2
 exact ⟨(h.jat ha hc hoc h1 hl0).1, h5⟩
theorem jat_pos (o : OpS) (c s j : Nat) : (o.pos c s j).jat c s = j := by unfold OpS.jat; rw [if_pos ⟨rfl, rfl⟩]; rfl
end
/-- A read in progress. -/
structure RdS where
 th : Nat
 off : Int
 place : Nat
 raw : Int
 ended : Bool
 err : Int
/-- What a word was before the current operation, if that is storing its words now. -/
def OpS.bef (o : OpS) (off : Int) : Option Int :=
 if o.stage = 3 then ((List.range o.es.length).find? fun q => (o.es.getD q E0).off == off).map fun q => gt0 o.seen q else none
def PwS.before (σ : PwS) (off : Int) : Option Int := (σ.cur.bind σ.ops).bind fun o => o.bef off
def RdS.fail (r : RdS) (e : Int) : RdS := { r with ended := true, err := e, raw := 0 }
/-- What a read does behind its instruction: does its thread have an error? -/
def RdS.chk (r : RdS) (D : DevS) : RdS := if (D.thr r.th).err ≠ 0 then r.fail (D.thr r.th).err else r
/-- A step of a read. -/
def PwS.rstep (σ : PwS) (r : RdS) : PwS × RdS :=
 if r.ended then (σ, r)
 else if (σ.dev.thr r.th).err ≠ 0 then (σ, r.fail (σ.dev.thr r.th).err)
 else if r.place = 0 then
  let D := σ.dev.on r.th (σ.dev.wordB r.off)
  ({ σ with dev := D }, match ({ σ with dev := D } : PwS).before r.off with
   | some x => ({ r with raw := x, ended := true, place := 1 } : RdS).chk D
   | none => ({ r with raw := σ.dev.load r.off, place := 1 } : RdS).chk D)
 else if r.place = 1 then
  let D := σ.dev.flush r.th r.off
  ({ σ with dev := D }, ({ r with place := 2 } : RdS).chk D)
 else
  let D := σ.dev.fence r.th
  ({ σ with dev := D }, ({ r with place := 3, ended := true } : RdS).chk D)
section
variable {sum : List Int → Int} {at0 : Nat → Int} {n cnt N N' : Nat} {M : Nat → Prop} {σ σ' σ2 : PwS} {xs xs' : List Int} {L L' : Nat → Int} {a c : Nat} {o oc oc' : OpS} {D D' : DevS} {r : RdS}
/-- The device's words stay as they are. -/
theorem Inv.same (h : Inv sum at0 n cnt M N σ xs L) (hon : On D n xs N') : Inv sum at0 n cnt M N' { σ with dev := D } xs L :=
 ⟨hon, h.hL, h.ok, h.idle, h.run, h.fresh, h.pos, h.inn, h.fin⟩
/-- What a read finds: the word as the operations that have taken effect leave it. -/
theorem Inv.look (h : Inv sum at0 n cnt M N σ xs L) {k : Nat} (hk : M k) : (∀ x, σ.before (8 * (k : Int)) = some x → x = L k) ∧ (σ.before (8 * (k : Int)) = none → xs[k]? = some (L k)) := by
 cases hc : σ.cur with
 | none =>
  refine ⟨fun x hx => ?_, fun _ => h.idle hc k hk⟩
  simp [PwS.before, hc] at hx
 | some c =>
  obtain ⟨oc, g1, g2, g3, g4⟩ := h.run c hc
  have hok := h.ok c oc g1
  have e : σ.before (8 * (k : Int)) = oc.bef (8 * (k : Int)) := by simp [PwS.before, hc, g1]
  rw [e]
  have hne : oc.stage ≠ 3 → (∀ k, M k → xs[k]? = some (L k)) → (∀ x, oc.bef (8 * (k : Int)) = some x → x = L k) ∧ (oc.bef (8 * (k : Int)) = none → xs[k]? = some (L k)) := fun h3 hx => by
   refine ⟨fun x hx => ?_, fun _ => hx k hk⟩
   unfold OpS.bef at hx
   rw [if_neg h3] at hx
   cases hx
  rcases g4 with ⟨e1, _, _, hx⟩ | ⟨e1, _, _, hx⟩ | ⟨e1, hs, _, hx, _⟩ | ⟨e1, _, hx⟩
  · exact hne (by omega) hx
  · exact hne (by omega) hx
  · unfold OpS.bef
    rw [if_pos e1]
    refine ⟨fun x hf => ?_, fun hf => ?_⟩
    · rw [Option.map_eq_some_iff] at hf
      obtain ⟨q, hq, rfl⟩ := hf
      have h1 := List.find?_some hq
      have h2 : q < oc.es.length := by simpa using List.mem_of_find?_eq_some hq
      have h3 := (hok.wd h2).2.2
      have h4 : (oc.es.getD q E0).off = 8 * (k : Int) := by simpa using h1
      have h5 : wdE oc.es q = k := by omega
      rw [(hs q h2).1, h5]
    · rw [Option.map_eq_none_iff, List.find?_eq_none] at hf
      refine hx k hk (fun q hq he => ?_)
      have h3 := (hok.wd hq).2.2
      exact hf q (by simpa using hq) (by rw [h3, he]; simp)
  · exact hne (by omega) hx
/-- What a step of a read leaves. -/
structure RdOk (n cnt : Nat) (M : Nat → Prop) (N : Nat) (sum : List Int → Int) (at0 : Nat → Int) (σ : PwS) (L : Nat → Int) (k : Nat) (r : RdS) (xs' : List Int) : Prop where
 inv : Inv sum at0 n cnt M N (σ.rstep r).1 xs' L
 ops : (σ.rstep r).1.ops = σ.ops ∧ (σ.rstep r).1.cur = σ.cur ∧ (σ.rstep r).1.busy = σ.busy
 th : (σ.rstep r).2.th = r.th ∧ (σ.rstep r).2.off = r.off ∧ (σ.rstep r).2.err = 0
 raw : (σ.rstep r).2.raw = if r.place = 0 then L k else r.raw
 place : r.place + 1 = (σ.rstep r).2.place ∧ (σ.rstep r).2.place ≤ 3
 ended : (σ.rstep r).2.ended = true ∨ (σ.rstep r).2.place ≤ 2
theorem Inv.rstep (h : Inv sum at0 n cnt M N σ xs L) (hN : N < 1000000) {k : Nat} (hk : M k) (hkn : k < 8 * n) (hoff : r.off = 8 * (k : Int)) (hth : r.th < 8) (he : r.ended = false) (h0 : r.err = 0) (hp : r.place ≤ 2) : RdOk n cnt M (N + 1) sum at0 σ L k r xs := by
 have herr : ∀ i, (σ.dev.thr i).err = 0 := h.on.err
 have hst : σ.rstep r = if r.place = 0 then
  ({ σ with dev := σ.dev.on r.th (σ.dev.wordB r.off) }, match ({ σ with dev := σ.dev.on r.th (σ.dev.wordB r.off) } : PwS).before r.off with
  | some x => ({ r with raw := x, ended := true, place := 1 } : RdS).chk (σ.dev.on r.th (σ.dev.wordB r.off))
  | none => ({ r with raw := σ.dev.load r.off, place := 1 } : RdS).chk (σ.dev.on r.th (σ.dev.wordB r.off)))
  else if r.place = 1 then ({ σ with dev := σ.dev.flush r.th r.off }, ({ r with place := 2 } : RdS).chk (σ.dev.flush r.th r.off))
  else ({ σ with dev := σ.dev.fence r.th }, ({ r with place := 3, ended := true } : RdS).chk (σ.dev.fence r.th)) := by
  unfold PwS.rstep
  rw [if_neg (by rw [he]; simp), if_neg (by rw [herr]; simp)]
 have chk0 : ∀ (s : RdS) (D : DevS), (∀ i, (D.thr i).err = 0) → s.chk D = s := fun s D hD => by
  unfold RdS.chk; rw [if_neg (by rw [hD]; simp)]
 by_cases p0 : r.place = 0
 · rw [if_pos p0] at hst
   rw [hoff] at hst
   obtain ⟨hl1, hl2⟩ := h.look hk
   have hwd : σ.dev.wordB (8 * (k : Int)) = true := by unfold DevS.wordB; rw [h.on.nl]; simp; omega
   have hdev : σ.dev.on r.th (σ.dev.wordB (8 * (k : Int))) = σ.dev := by unfold DevS.on; rw [h.on.off, hwd]; simp
   rw [hdev] at hst
   have e0 : ({ σ with dev := σ.dev } : PwS) = σ := rfl
   rw [e0] at hst
   cases hb : σ.before (8 * (k : Int)) with
   | some x =>
    rw [hb] at hst
    dsimp only at hst
    rw [chk0 _ _ herr] at hst
    have hx := hl1 x hb
    refine ⟨by rw [hst]; exact h.mono (Nat.le_succ _), by rw [hst]; exact ⟨rfl, rfl, rfl⟩, by rw [hst]; exact ⟨rfl, by rw [hoff], h0⟩, by rw [hst, if_pos p0]; exact hx, by rw [hst]; exact ⟨by rw [p0], by show (1 : Nat) ≤ 3; omega⟩, by rw [hst]; exact .inl rfl⟩
   | none =>
    rw [hb] at hst
    dsimp only at hst
    rw [chk0 _ _ herr] at hst
    have hx := (h.on.load_at hkn (hl2 hb) r.th).2
    rw [hx] at hst
    refine ⟨by rw [hst]; exact h.mono (Nat.le_succ _), by rw [hst]; exact ⟨rfl, rfl, rfl⟩, by rw [hst]; exact ⟨rfl, by rw [hoff], h0⟩, by rw [hst, if_pos p0], by rw [hst]; exact ⟨by rw [p0], by show (1 : Nat) ≤ 3; omega⟩, by rw [hst]; exact .inr (by show (1 : Nat) ≤ 2; omega)⟩
 · rw [if_neg p0] at hst
   by_cases p1 : r.place = 1
   · rw [if_pos p1] at hst
     have hon := h.on.flush r.th k hkn hN
     rw [hoff] at hst
     rw [chk0 _ _ hon.err] at hst
     refine ⟨by rw [hst]; exact h.same hon, by rw [hst]; exact ⟨rfl, rfl, rfl⟩, by rw [hst]; exact ⟨rfl, hoff ▸ rfl, h0⟩, by rw [hst, if_neg p0], by rw [hst]; exact ⟨by rw [p1], by show (2 : Nat) ≤ 3; omega⟩, by rw [hst]; exact .inr (by show (2 : Nat) ≤ 2; omega)⟩
   · rw [if_neg p1] at hst
     have hon := h.on.fence r.th hth hN
     rw [chk0 _ _ hon.err] at hst
     have p2 : r.place = 2 := by omega
     refine ⟨by rw [hst]; exact h.same hon, by rw [hst]; exact ⟨rfl, rfl, rfl⟩, by rw [hst]; exact ⟨rfl, rfl, h0⟩, by rw [hst, if_neg p0], by rw [hst]; exact ⟨by rw [p2], by show (3 : Nat) ≤ 3; omega⟩, by rw [hst]; exact .inl rfl⟩
end
end Go.Proofs.YtaefkelaffijbaaGreatDoor
