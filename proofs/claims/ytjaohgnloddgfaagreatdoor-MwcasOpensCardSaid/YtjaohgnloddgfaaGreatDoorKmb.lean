/- The machine of mwcas as plain data, and the plain law of calls that interleave (merged). -/
import Derived.Test.YtjaohgnloddgfaaGreatDoorKma
namespace Go.Proofs.YtjaohgnloddgfaaGreatDoor
open Go.RowKit
set_option linter.unusedVariables false
set_option linter.unusedSimpArgs false

/-- An entry. -/
structure Ent where
  off : Int
  old : Int
  new : Int
  ex : Bool
def limW : Int := 1099511627776
def Ent.sat (e : Ent) (raw : Int) : Bool := if e.ex then raw == e.old else raw % 1099511627776 == e.old
def Ent.after (e : Ent) (raw : Int) : Int := e.new + ((raw / 1099511627776 + 1) % 4194304) * 1099511627776
/-- An operation; others are named by the blocks in which they lie. -/
structure OpS where
  k : Nat
  th : Nat
  es : List Ent
  order : List Nat
  seen : List Int
  loaded : Nat
  stage : Nat
  prog : List Ins
  done : Bool
  changed : Bool
  ended : Bool
  err : Int
  tgt : Option Nat
  inn : Nat
  next : Nat
/-- A pool: its device, the descriptors in use, the operation that is executed now, and the operations. -/
structure PwS where
  dev : DevS
  busy : List Bool
  cur : Option Nat
  ops : Nat → Option OpS
def PwS.setOp (σ : PwS) (a : Nat) (o : OpS) : PwS := { σ with ops := fun b => if b = a then some o else σ.ops b }
/-- The words of the entries as a descriptor has them. -/
def entW (sum : List Int → Int) (es : List Ent) (seen : List Int) : List Int := (es.zip seen).flatMap fun p => [if p.1.ex then p.1.off + 1 else p.1.off, p.1.old, p.1.after p.2]
def chgW (es : List Ent) (seen : List Int) : List (Int × Int) := (es.zip seen).map fun p => (p.1.off, p.1.after p.2)
def recW (at0 : Int) (ws : List Int) : List (Int × Int) := ws.zipIdx.map fun p => (at0 + 64 + 8 * (p.2 : Int), p.1)
def unusedW : Int := 1836515329
def succW (sum : List Int → Int) (ws : List Int) : Int := 3 + (ws.length / 3 : Nat) * 256 + 1836515328 + sum ws * 4294967296
section
variable (sum : List Int → Int) (at0 : Nat → Int)
/-- The program of a stage. -/
def OpS.progOf (o : OpS) (s : Nat) : List Ins :=
  if s = 1 then storesP (recW (at0 o.k) (entW sum o.es o.seen))
  else if s = 2 then storesP [(at0 o.k, succW sum (entW sum o.es o.seen))]
  else if s = 3 then storesP (chgW o.es o.seen)
  else storesP [(at0 o.k, unusedW)]
def PwS.fin (σ : PwS) (c : Nat) (o : OpS) (ch : Bool) : PwS := { σ.setOp c { o with done := true, changed := ch } with cur := none }
def PwS.enter (σ : PwS) (c : Nat) (o : OpS) (s : Nat) : PwS :=
  if s ≤ 4 then σ.setOp c { o with stage := s, prog := o.progOf sum at0 s } else σ.fin c { o with stage := s } true
/-- The next word of operation c is loaded by thread i. -/
def PwS.load (σ : PwS) (c : Nat) (o : OpS) (i : Nat) : PwS :=
  let q := o.order.getD o.loaded 0
  let off := (o.es.getD q ⟨0, 0, 0, false⟩).off
  let raw := σ.dev.load off
  let σ1 : PwS := { σ with dev := σ.dev.on i (σ.dev.wordB off) }
  if (σ1.dev.thr i).err ≠ 0 then σ1
  else if (o.es.getD q ⟨0, 0, 0, false⟩).sat raw then
    let o1 := { o with seen := o.seen.set q raw, loaded := o.loaded + 1 }
    if o1.loaded = o.order.length then (σ1.setOp c o1).enter sum at0 c o1 1 else σ1.setOp c o1
  else σ1.fin c o false
/-- One instruction of operation c by operation a. -/
def PwS.adv (σ : PwS) (a : Nat) (o : OpS) (c : Nat) (oc : OpS) : PwS :=
  if oc.stage = 0 then σ.load sum at0 c oc o.th
  else
    let o1 := if o.tgt = some c ∧ o.inn = oc.stage then o else { o with tgt := some c, inn := oc.stage, next := 0 }
    let σ1 : PwS := { σ.setOp a o1 with dev := σ.dev.exec1 o.th (oc.prog.getD o1.next (0, 0, 0)) }
    if (σ1.dev.thr o.th).err ≠ 0 then σ1
    else
      let o2 := { o1 with next := o1.next + 1 }
      let σ2 := σ1.setOp a o2
      if o2.next = oc.prog.length then σ2.enter sum at0 c (if c = a then o2 else oc) (oc.stage + 1) else σ2
/-- The operation ends. -/
def PwS.fend (σ : PwS) (a : Nat) (o : OpS) (e : Int) : PwS :=
  let σ1 := { σ.setOp a { o with ended := true, err := e } with busy := σ.busy.set o.k false }
  if !o.done && decide (σ.cur = some a) && decide (o.stage < 2) then { σ1 with cur := none } else σ1
/-- A step of operation a, and whether it has ended then. -/
def PwS.step (σ : PwS) (a : Nat) : PwS × Bool :=
  match σ.ops a with
  | none => (σ, true)
  | some o =>
    if o.ended then (σ, true)
    else if (σ.dev.thr o.th).err ≠ 0 then (σ.fend a o (σ.dev.thr o.th).err, true)
    else if o.done then (σ.fend a o 0, true)
    else
      let σ0 : PwS := if σ.cur.isSome then σ else { σ with cur := some a }
      let c := σ0.cur.getD a
      match σ0.ops c with
      | none => (σ, true)
      | some oc =>
        let σ1 := σ0.adv sum at0 a o c oc
        match σ1.ops a with
        | none => (σ1, true)
        | some o1 =>
          if (σ1.dev.thr o.th).err ≠ 0 then (σ1.fend a o1 (σ1.dev.thr o.th).err, true)
          else if o1.done then (σ1.fend a o1 0, true)
          else (σ1, false)
end
end Go.Proofs.YtjaohgnloddgfaaGreatDoor

namespace Go.Proofs.YtjaohgnloddgfaaGreatDoor
open Go.RowKit
set_option linter.unusedVariables false
set_option linter.unusedSimpArgs false

def E0 : Ent := ⟨0, 0, 0, false⟩
structure EntOk (n : Nat) (M : Nat → Prop) (e : Ent) : Prop where
  wd : ∃ k : Nat, M k ∧ k < 8 * n ∧ e.off = 8 * (k : Int)
  old : 0 ≤ e.old ∧ e.old < 4611686018427387904
  new : 0 ≤ e.new ∧ e.new < 1099511627776
structure OpOk (cnt n : Nat) (M : Nat → Prop) (o : OpS) : Prop where
  th : o.th < 8
  k : o.k < cnt
  l1 : 1 ≤ o.es.length
  l6 : o.es.length ≤ 6
  ent : ∀ e ∈ o.es, EntOk n M e
  nd : ∀ i j, i < o.es.length → j < o.es.length → (o.es.getD i E0).off = (o.es.getD j E0).off → i = j
  perm : o.order.Perm (List.range o.es.length)
  sl : o.seen.length = o.es.length
  sr : ∀ q, 0 ≤ gt0 o.seen q ∧ gt0 o.seen q < 4611686018427387904
def wdE (es : List Ent) (q : Nat) : Nat := ((es.getD q E0).off / 8).toNat
/-- Are the entries satisfied by these words? -/
def satL (L : Nat → Int) (es : List Ent) : Bool := (List.range es.length).all fun q => (es.getD q E0).sat (L (wdE es q))
/-- The words afterwards. -/
def appL (L : Nat → Int) (es : List Ent) : Nat → Int := fun k => match (List.range es.length).find? (fun q => wdE es q == k) with
  | some q => (es.getD q E0).after (L k)
  | none => L k
theorem Ent.after_range (e : Ent) (raw : Int) (h : 0 ≤ e.new ∧ e.new < 1099511627776) : 0 ≤ e.after raw ∧ e.after raw < 4611686018427387904 := by
  unfold Ent.after; omega
section
variable {n cnt N : Nat} {M : Nat → Prop} {o : OpS} {L : Nat → Int}
theorem OpOk.at_ (h : OpOk cnt n M o) {q : Nat} (hq : q < o.es.length) : EntOk n M (o.es.getD q E0) := by
  rw [List.getD_eq_getElem?_getD, List.getElem?_eq_getElem hq]; exact h.ent _ (List.getElem_mem hq)
theorem OpOk.wd (h : OpOk cnt n M o) {q : Nat} (hq : q < o.es.length) : M (wdE o.es q) ∧ wdE o.es q < 8 * n ∧ (o.es.getD q E0).off = 8 * (wdE o.es q : Int) := by
  obtain ⟨k, h1, h2, h3⟩ := (h.at_ hq).wd
  have e : wdE o.es q = k := by unfold wdE; rw [h3]; omega
  rw [e]; exact ⟨h1, h2, h3⟩
theorem OpOk.inj (h : OpOk cnt n M o) {i j : Nat} (hi : i < o.es.length) (hj : j < o.es.length) (he : wdE o.es i = wdE o.es j) : i = j :=
  h.nd i j hi hj (by rw [(h.wd hi).2.2, (h.wd hj).2.2, he])
theorem appL_at (h : OpOk cnt n M o) {q : Nat} (hq : q < o.es.length) : appL L o.es (wdE o.es q) = (o.es.getD q E0).after (L (wdE o.es q)) := by
  unfold appL
  cases hf : (List.range o.es.length).find? (fun q' => wdE o.es q' == wdE o.es q) with
  | none =>
    rw [List.find?_eq_none] at hf
    exact absurd (hf q (by simpa using hq)) (by simp)
  | some q' =>
    have h1 := List.find?_some hf
    have h2 := List.mem_of_find?_eq_some hf
    have : q' = q := h.inj (by simpa using h2) hq (by simpa using h1)
    rw [this]
theorem appL_ne {es : List Ent} {k : Nat} (h : ∀ q, q < es.length → wdE es q ≠ k) : appL L es k = L k := by
  unfold appL
  cases hf : (List.range es.length).find? (fun q' => wdE es q' == k) with
  | none => rfl
  | some q' =>
    have h1 := List.find?_some hf
    have h2 := List.mem_of_find?_eq_some hf
    exact absurd (by simpa using h1) (h q' (by simpa using h2))
theorem OpOk.order_get (h : OpOk cnt n M o) {j : Nat} (hj : j < o.order.length) : o.order.getD j 0 < o.es.length := by
  have : o.order.getD j 0 ∈ o.order := by
    rw [List.getD_eq_getElem?_getD, List.getElem?_eq_getElem hj]; exact List.getElem_mem hj
  have := h.perm.mem_iff.1 this
  simpa using this
theorem OpOk.order_len (h : OpOk cnt n M o) : o.order.length = o.es.length := by rw [h.perm.length_eq]; simp
theorem OpOk.order_all (h : OpOk cnt n M o) {q : Nat} (hq : q < o.es.length) : ∃ j, j < o.order.length ∧ o.order.getD j 0 = q := by
  have : q ∈ o.order := h.perm.mem_iff.2 (by simpa using hq)
  obtain ⟨j, hj, he⟩ := List.getElem_of_mem this
  exact ⟨j, hj, by rw [List.getD_eq_getElem?_getD, List.getElem?_eq_getElem hj]; exact he⟩
theorem OpOk.order_inj (h : OpOk cnt n M o) {i j : Nat} (hi : i < o.order.length) (hj : j < o.order.length) (he : o.order.getD i 0 = o.order.getD j 0) : i = j := by
  have hnd : o.order.Nodup := h.perm.nodup_iff.2 List.nodup_range
  simp only [List.getD_eq_getElem?_getD, List.getElem?_eq_getElem hi, List.getElem?_eq_getElem hj, Option.getD_some] at he
  exact (List.getElem_inj hnd).1 he
end

/-- The descriptors lie in words that are not managed. -/
def RegOk (n cnt : Nat) (M : Nat → Prop) (at0 : Nat → Int) : Prop := (∀ k, M k → k < 8 * n) ∧ ∀ k, k < cnt → ∃ b : Nat, at0 k = 8 * (b : Int) ∧ ∀ j, j < 32 → b + j < 8 * n ∧ ¬ M (b + j)
def OpS.allSeen (o : OpS) (L : Nat → Int) : Prop := ∀ q, q < o.es.length → gt0 o.seen q = L (wdE o.es q) ∧ (o.es.getD q E0).sat (L (wdE o.es q)) = true
section
variable (sum : List Int → Int) (at0 : Nat → Int)
/-- The operation that is executed now: how far it is. -/
def CurOk (M : Nat → Prop) (o : OpS) (xs : List Int) (L : Nat → Int) : Prop :=
  (o.stage = 0 ∧ o.loaded < o.order.length ∧ (∀ j, j < o.loaded → gt0 o.seen (o.order.getD j 0) = L (wdE o.es (o.order.getD j 0)) ∧ (o.es.getD (o.order.getD j 0) E0).sat (L (wdE o.es (o.order.getD j 0))) = true) ∧ ∀ k, M k → xs[k]? = some (L k)) ∨
  ((o.stage = 1 ∨ o.stage = 2) ∧ o.allSeen L ∧ o.prog = o.progOf sum at0 o.stage ∧ ∀ k, M k → xs[k]? = some (L k)) ∨
  (o.stage = 3 ∧ o.allSeen L ∧ o.prog = o.progOf sum at0 3 ∧ (∀ k, M k → (∀ q, q < o.es.length → wdE o.es q ≠ k) → xs[k]? = some (L k)) ∧ ∀ q, q < o.es.length → xs[wdE o.es q]? = some (L (wdE o.es q)) ∨ xs[wdE o.es q]? = some ((o.es.getD q E0).after (gt0 o.seen q))) ∨
  (o.stage = 4 ∧ o.prog = o.progOf sum at0 4 ∧ ∀ k, M k → xs[k]? = some (L k))
/-- What holds between the steps of operations, on a device that is on. -/
structure Inv (n cnt : Nat) (M : Nat → Prop) (N : Nat) (σ : PwS) (xs : List Int) (L : Nat → Int) : Prop where
  on : On σ.dev n xs N
  hL : ∀ k, M k → 0 ≤ L k ∧ L k < 4611686018427387904
  ok : ∀ a o, σ.ops a = some o → OpOk cnt n M o
  idle : σ.cur = none → ∀ k, M k → xs[k]? = some (L k)
  run : ∀ c, σ.cur = some c → ∃ oc, σ.ops c = some oc ∧ oc.done = false ∧ oc.ended = false ∧ CurOk sum at0 M oc xs L
  fresh : ∀ a o, σ.ops a = some o → σ.cur ≠ some a → o.done = false → o.stage = 0 ∧ o.loaded = 0 ∧ o.ended = false
  pos : ∀ a o c oc, σ.ops a = some o → σ.cur = some c → σ.ops c = some oc → o.tgt = some c → o.inn = oc.stage → 1 ≤ oc.stage → o.next < oc.prog.length ∧ (oc.stage = 3 → ∀ q, q < o.next → q < oc.es.length → xs[wdE oc.es q]? = some ((oc.es.getD q E0).after (gt0 oc.seen q)))
  inn : ∀ a o c, σ.ops a = some o → o.tgt = some c → ∃ oc, σ.ops c = some oc ∧ o.inn ≤ oc.stage
  fin : ∀ a o, σ.ops a = some o → o.ended = true → o.done = true
/-- The result of an operation, once it has taken effect. -/
def OpS.res (o : OpS) : Option Bool := if o.done then some o.changed else if 4 ≤ o.stage then some true else none
def OpS.key (o : OpS) : List Ent × Nat × Nat × Option Bool := (o.es, o.th, o.k, o.res)
/-- What a step has done: nothing that is seen, or an operation has taken effect. -/
def Eff (a : Nat) (σ σ' : PwS) (L L' : Nat → Int) : Prop :=
  (L' = L ∧ ∀ b, (σ'.ops b).map OpS.key = (σ.ops b).map OpS.key) ∨
  ∃ c oc oc', σ.ops c = some oc ∧ σ'.ops c = some oc' ∧ oc.res = none ∧ oc'.res = some (satL L oc.es) ∧ L' = (if satL L oc.es then appL L oc.es else L) ∧ oc'.es = oc.es ∧ oc'.th = oc.th ∧ oc'.k = oc.k ∧ (σ.cur = some c ∨ c = a) ∧ oc.ended = false ∧ ∀ b, b ≠ c → (σ'.ops b).map OpS.key = (σ.ops b).map OpS.key
/-- At instruction j of stage s of operation c. -/
def OpS.pos (o : OpS) (c s j : Nat) : OpS := { o with tgt := some c, inn := s, next := j }
def OpS.jat (o : OpS) (c s : Nat) : Nat := if o.tgt = some c ∧ o.inn = s then o.next else 0
theorem OpS.pos_at (o : OpS) (c s : Nat) : (if o.tgt = some c ∧ o.inn = s then o else { o with tgt := some c, inn := s, next := 0 }) = o.pos c s (o.jat c s) := by
  unfold OpS.jat
  split
  · rename_i h
    obtain ⟨h1, h2⟩ := h
    cases o
    simp only at h1 h2
    subst h1 h2
    rfl
  · rfl
section
variable {sum : List Int → Int} {at0 : Nat → Int} {n cnt N : Nat} {M : Nat → Prop} {σ : PwS} {xs : List Int} {L : Nat → Int} {a c : Nat} {o oc : OpS}
theorem setOp_ops (σ : PwS) (a b : Nat) (o : OpS) : (σ.setOp a o).ops b = if b = a then some o else σ.ops b := rfl
/-- An operation takes over. -/
theorem Inv.claim (h : Inv sum at0 n cnt M N σ xs L) (hc : σ.cur = none) (ha : σ.ops a = some o) (hd : o.done = false) : Inv sum at0 n cnt M N { σ with cur := some a } xs L := by
  obtain ⟨f1, f2, f3⟩ := h.fresh a o ha (by rw [hc]; simp) hd
  have hok := h.ok a o ha
  have hl := hok.order_len
  have := hok.l1
  refine ⟨h.on, h.hL, h.ok, fun he => by simp at he, fun c hcc => ?_, fun b ob hb hne hdb => h.fresh b ob hb (by rw [hc]; simp) hdb, fun b ob c oc hb hcc hoc ht hi h1 => ?_, h.inn, h.fin⟩
  · have : a = c := by simpa using hcc
    subst this
    exact ⟨o, ha, hd, f3, .inl ⟨f1, by omega, fun j hj => by omega, h.idle hc⟩⟩
  · have : a = c := by simpa using hcc
    subst this
    rw [show oc = o by rw [show σ.ops a = some oc from hoc] at ha; injection ha] at h1
    omega
/-- An operation that is done ends. -/
theorem Inv.fend (h : Inv sum at0 n cnt M N σ xs L) (ha : σ.ops a = some o) (hd : o.done = true) (bs : List Bool) : Inv sum at0 n cnt M N { σ.setOp a { o with ended := true, err := 0 } with busy := bs } xs L := by
  have hca : σ.cur ≠ some a := fun hc => by
    obtain ⟨oc, h1, h2, _⟩ := h.run a hc
    rw [ha] at h1; injection h1 with h1; rw [h1] at hd; rw [hd] at h2; cases h2
  have key : ∀ b ob, (if b = a then some { o with ended := true, err := 0 } else σ.ops b) = some ob → ∃ ob0, σ.ops b = some ob0 ∧ (ob = ob0 ∨ (b = a ∧ ob = { o with ended := true, err := 0 } ∧ ob0 = o)) := by
    intro b ob hb
    split at hb
    · rename_i hba
      injection hb with hb
      exact ⟨o, by rw [hba]; exact ha, .inr ⟨hba, hb.symm, rfl⟩⟩
    · exact ⟨ob, hb, .inl rfl⟩
  refine ⟨h.on, h.hL, fun b ob hb => ?_, h.idle, fun c hc => ?_, fun b ob hb hne hdb => ?_, fun b ob c oc hb hc hoc ht hi h1 => ?_, fun b ob c hb ht => ?_, fun b ob hb he => ?_⟩
  · obtain ⟨ob0, h1, h2 | ⟨_, h2, h3⟩⟩ := key b ob hb
    · rw [h2]; exact h.ok b ob0 h1
    · have := h.ok b ob0 h1
      rw [h3] at this
      rw [h2]; exact ⟨this.th, this.k, this.l1, this.l6, this.ent, this.nd, this.perm, this.sl, this.sr⟩
  · obtain ⟨oc, h1, h2⟩ := h.run c hc
    refine ⟨oc, ?_, h2⟩
    show (if c = a then _ else σ.ops c) = some oc
    rw [if_neg (fun he => hca (by rw [← he]; exact hc))]; exact h1
  · obtain ⟨ob0, h1, h2 | ⟨_, h2, h3⟩⟩ := key b ob hb
    · rw [h2] at hdb ⊢; exact h.fresh b ob0 h1 hne hdb
    · rw [h2] at hdb
      exact absurd hdb (by show ¬ o.done = false; rw [hd]; simp)
  · obtain ⟨oc0, g1, g2 | ⟨g0, _, _⟩⟩ := key c oc hoc
    · rw [g2] at hi h1 ⊢
      obtain ⟨ob0, h2, h3 | ⟨_, h3, h4⟩⟩ := key b ob hb
      · rw [h3] at ht hi ⊢; exact h.pos b ob0 c oc0 h2 hc g1 ht hi h1
      · rw [h3] at ht hi ⊢
        rw [h4] at h2
        exact h.pos b o c oc0 h2 hc g1 ht hi h1
    · exact absurd (by rw [← g0]; exact hc) hca
  · obtain ⟨ob0, h2, h3⟩ := key b ob hb
    have ht' : ob0.tgt = some c ∧ ob0.inn = ob.inn := by
      rcases h3 with h3 | ⟨_, h3, h4⟩
      · rw [h3] at ht ⊢; exact ⟨ht, rfl⟩
      · rw [h3] at ht ⊢; rw [h4]; exact ⟨ht, rfl⟩
    obtain ⟨oc, g1, g2⟩ := h.inn b ob0 c h2 ht'.1
    rw [ht'.2] at g2
    by_cases hca' : c = a
    · refine ⟨{ o with ended := true, err := 0 }, if_pos hca', ?_⟩
      rw [hca', ha] at g1
      injection g1 with g1
      rw [← g1] at g2; exact g2
    · exact ⟨oc, (if_neg hca').trans g1, g2⟩
  · obtain ⟨ob0, h2, h3 | ⟨_, h3, h4⟩⟩ := key b ob hb
    · rw [h3] at he ⊢; exact h.fin b ob0 h2 he
    · rw [h3]; exact hd
end
end
end Go.Proofs.YtjaohgnloddgfaaGreatDoor

namespace Go.Proofs.YtjaohgnloddgfaaGreatDoor
open Go.RowKit
set_option linter.unusedVariables false
set_option linter.unusedSimpArgs false

section
variable {sum : List Int → Int} {at0 : Nat → Int} {n cnt N N' : Nat} {M : Nat → Prop} {σ : PwS} {xs xs' : List Int} {L L' : Nat → Int} {a c : Nat} {o oc oc' : OpS} {D' : DevS}
/-- The current operation goes on to another stage, or ends. -/
theorem Inv.setC (h : Inv sum at0 n cnt M N σ xs L) (hc : σ.cur = some c) (hoc : σ.ops c = some oc) (ok' : OpOk cnt n M oc') (t1 : oc'.tgt = oc.tgt) (t2 : oc'.inn = oc.inn) (t3 : oc'.next = oc.next)
    (hst : oc.stage < oc'.stage ∨ oc'.stage = 0) (hst' : oc.stage ≤ oc'.stage) (he : oc'.ended = false) (hon : On D' n xs' N') (hL' : ∀ k, M k → 0 ≤ L' k ∧ L' k < 4611686018427387904) (cur' : Option Nat)
    (hcur : (cur' = some c ∧ oc'.done = false ∧ CurOk sum at0 M oc' xs' L') ∨ (cur' = none ∧ oc'.done = true ∧ ∀ k, M k → xs'[k]? = some (L' k))) :
    Inv sum at0 n cnt M N' { σ.setOp c oc' with dev := D', cur := cur' } xs' L' := by
  have key : ∀ b ob, (if b = c then some oc' else σ.ops b) = some ob → ∃ ob0, σ.ops b = some ob0 ∧ ((b ≠ c ∧ ob = ob0) ∨ (b = c ∧ ob = oc' ∧ ob0 = oc)) := by
    intro b ob hb
    split at hb
    · rename_i hba
      injection hb with hb
      exact ⟨oc, by rw [hba]; exact hoc, .inr ⟨hba, hb.symm, rfl⟩⟩
    · rename_i hba
      exact ⟨ob, hb, .inl ⟨hba, rfl⟩⟩
  have hself : (if c = c then some oc' else σ.ops c) = some oc' := if_pos rfl
  refine ⟨hon, hL', fun b ob hb => ?_, fun h0 => ?_, fun d hd => ?_, fun b ob hb hne hdb => ?_, fun b ob d od hb hd hod ht hi h1 => ?_, fun b ob d hb ht => ?_, fun b ob hb heb => ?_⟩
  · obtain ⟨ob0, h1, ⟨_, h2⟩ | ⟨_, h2, _⟩⟩ := key b ob hb
    · rw [h2]; exact h.ok b ob0 h1
    · rw [h2]; exact ok'
  · rcases hcur with ⟨h1, _⟩ | ⟨_, _, h3⟩
    · rw [show cur' = none from h0] at h1; cases h1
    · exact h3
  · rcases hcur with ⟨h1, h2, h3⟩ | ⟨h1, _⟩
    · have : d = c := by rw [h1] at hd; injection hd with hd; exact hd.symm
      subst this
      exact ⟨oc', hself, h2, he, h3⟩
    · rw [h1] at hd; cases hd
  · obtain ⟨ob0, h1, ⟨h0, h2⟩ | ⟨h0, h2, _⟩⟩ := key b ob hb
    · rw [h2] at hdb ⊢; exact h.fresh b ob0 h1 (by rw [hc]; exact fun hh => h0 (by injection hh with hh; exact hh.symm)) hdb
    · rcases hcur with ⟨h1, _⟩ | ⟨_, h3, _⟩
      · exact absurd (show cur' = some b by rw [h1, h0]) hne
      · rw [h2, h3] at hdb; cases hdb
  · rcases hcur with ⟨h1, _⟩ | ⟨h1, _⟩
    · have hdc : d = c := by rw [h1] at hd; injection hd with hd; exact hd.symm
      subst hdc
      have hod' : od = oc' := by
        have hod2 : (if d = d then some oc' else σ.ops d) = some od := hod
        rw [hself] at hod2; injection hod2 with hod2; exact hod2.symm
      subst hod'
      obtain ⟨ob0, g1, g2⟩ := key b ob hb
      have g3 : ob0.tgt = some d ∧ ob0.inn = ob.inn := by
        rcases g2 with ⟨_, g2⟩ | ⟨_, g2, g3⟩
        · rw [g2] at ht ⊢; exact ⟨ht, rfl⟩
        · rw [g2] at ht ⊢; rw [g3, ← t1, ← t2]; exact ⟨ht, rfl⟩
      obtain ⟨oc2, g4, g5⟩ := h.inn b ob0 d g1 g3.1
      rw [hoc] at g4
      injection g4 with g4
      rw [← g4, g3.2, hi] at g5
      omega
    · rw [h1] at hd; cases hd
  · obtain ⟨ob0, g1, g2⟩ := key b ob hb
    have g3 : ob0.tgt = some d ∧ ob0.inn = ob.inn := by
      rcases g2 with ⟨_, g2⟩ | ⟨_, g2, g3⟩
      · rw [g2] at ht ⊢; exact ⟨ht, rfl⟩
      · rw [g2] at ht ⊢; rw [g3, ← t1, ← t2]; exact ⟨ht, rfl⟩
    obtain ⟨od, g4, g5⟩ := h.inn b ob0 d g1 g3.1
    rw [g3.2] at g5
    by_cases hdc : d = c
    · subst hdc
      rw [hoc] at g4
      injection g4 with g4
      exact ⟨oc', hself, by rw [← g4] at g5; omega⟩
    · exact ⟨od, (if_neg hdc).trans g4, g5⟩
  · obtain ⟨ob0, h1, ⟨_, h2⟩ | ⟨_, h2, _⟩⟩ := key b ob hb
    · rw [h2] at heb ⊢; exact h.fin b ob0 h1 heb
    · rw [h2, he] at heb; cases heb
/-- The device goes on, within a stage. -/
theorem Inv.setD (h : Inv sum at0 n cnt M N σ xs L) (hc : σ.cur = some c) (hoc : σ.ops c = some oc) (hon : On D' n xs' N') (hcur : CurOk sum at0 M oc xs' L)
    (hp : oc.stage = 3 → ∀ q, q < oc.es.length → xs[wdE oc.es q]? = some ((oc.es.getD q E0).after (gt0 oc.seen q)) → xs'[wdE oc.es q]? = some ((oc.es.getD q E0).after (gt0 oc.seen q))) :
    Inv sum at0 n cnt M N' { σ with dev := D' } xs' L := by
  refine ⟨hon, h.hL, h.ok, fun h0 => (by rw [show σ.cur = none from h0] at hc; cases hc), fun d hd => ?_, h.fresh, fun b ob d od hb hd hod ht hi h1 => ?_, h.inn, h.fin⟩
  · have hdc : d = c := by rw [show σ.cur = some d from hd] at hc; injection hc
    subst hdc
    obtain ⟨oc2, g1, g2, g3, g4⟩ := h.run d hc
    rw [hoc] at g1
    injection g1 with g1
    subst g1
    exact ⟨oc, hoc, g2, g3, hcur⟩
  · have hdc : d = c := by rw [show σ.cur = some d from hd] at hc; injection hc
    subst hdc
    have hod' : od = oc := by rw [show σ.ops d = some od from hod] at hoc; injection hoc
    subst hod'
    obtain ⟨g1, g2⟩ := h.pos b ob d od hb hd hod ht hi h1
    exact ⟨g1, fun h3 q hq hql => hp h3 q hql (g2 h3 q hq hql)⟩
/-- A thread goes on, within the current stage or one that is over. -/
theorem Inv.setA (h : Inv sum at0 n cnt M N σ xs L) (hoc : σ.ops c = some oc) (ha : σ.ops a = some o) {s j : Nat} (hs : s ≤ oc.stage)
    (hj : σ.cur = some c → s = oc.stage → j < oc.prog.length ∧ (oc.stage = 3 → ∀ q, q < j → q < oc.es.length → xs[wdE oc.es q]? = some ((oc.es.getD q E0).after (gt0 oc.seen q)))) :
    Inv sum at0 n cnt M N (σ.setOp a (o.pos c s j)) xs L := by
  have key : ∀ b ob, (if b = a then some (o.pos c s j) else σ.ops b) = some ob → ∃ ob0, σ.ops b = some ob0 ∧ ((b ≠ a ∧ ob = ob0) ∨ (b = a ∧ ob = o.pos c s j ∧ ob0 = o)) := by
    intro b ob hb
    split at hb
    · rename_i hba
      injection hb with hb
      exact ⟨o, by rw [hba]; exact ha, .inr ⟨hba, hb.symm, rfl⟩⟩
    · rename_i hba
      exact ⟨ob, hb, .inl ⟨hba, rfl⟩⟩
  have back : ∀ d od, σ.ops d = some od → ∃ od', (if d = a then some (o.pos c s j) else σ.ops d) = some od' ∧ od'.stage = od.stage := by
    intro d od hd
    by_cases hda : d = a
    · subst hda
      rw [ha] at hd
      injection hd with hd
      subst hd
      exact ⟨_, if_pos rfl, rfl⟩
    · exact ⟨od, (if_neg hda).trans hd, rfl⟩
  refine ⟨h.on, h.hL, fun b ob hb => ?_, h.idle, fun d hd => ?_, fun b ob hb hne hdb => ?_, fun b ob d od hb hd hod ht hi h1 => ?_, fun b ob d hb ht => ?_, fun b ob hb heb => ?_⟩
  · obtain ⟨ob0, h1, ⟨_, h2⟩ | ⟨_, h2, h3⟩⟩ := key b ob hb
    · rw [h2]; exact h.ok b ob0 h1
    · have := h.ok b ob0 h1
      rw [h3] at this
      rw [h2]; exact ⟨this.th, this.k, this.l1, this.l6, this.ent, this.nd, this.perm, this.sl, this.sr⟩
  · obtain ⟨od, g1, g2, g3, g4⟩ := h.run d hd
    by_cases hda : d = a
    · subst hda
      rw [ha] at g1
      injection g1 with g1
      subst g1
      exact ⟨_, if_pos rfl, g2, g3, g4⟩
    · exact ⟨od, (if_neg hda).trans g1, g2, g3, g4⟩
  · obtain ⟨ob0, h1, ⟨_, h2⟩ | ⟨h0, h2, h3⟩⟩ := key b ob hb
    · rw [h2] at hdb ⊢; exact h.fresh b ob0 h1 hne hdb
    · rw [h3] at h1
      rw [h2] at hdb ⊢; exact h.fresh b o h1 hne hdb
  · obtain ⟨od0, e1, e2⟩ := key d od hod
    have est : od.stage = od0.stage ∧ od.prog = od0.prog ∧ od.es = od0.es ∧ od.seen = od0.seen := by
      rcases e2 with ⟨_, e2⟩ | ⟨_, e2, e3⟩
      · rw [e2]; exact ⟨rfl, rfl, rfl, rfl⟩
      · rw [e2, e3]; exact ⟨rfl, rfl, rfl, rfl⟩
    rw [est.1] at hi h1
    rw [est.1, est.2.1, est.2.2.1, est.2.2.2]
    obtain ⟨ob0, g1, ⟨_, g2⟩ | ⟨_, g2, g3⟩⟩ := key b ob hb
    · rw [g2] at ht hi ⊢; exact h.pos b ob0 d od0 g1 hd e1 ht hi h1
    · rw [g2] at ht hi ⊢
      have hdc : c = d := by injection (show some c = some d from ht)
      subst hdc
      have eoc : od0 = oc := by rw [e1] at hoc; injection hoc
      subst eoc
      exact hj hd hi
  · obtain ⟨ob0, g1, ⟨_, g2⟩ | ⟨_, g2, g3⟩⟩ := key b ob hb
    · rw [g2] at ht ⊢
      obtain ⟨od, e1, e2⟩ := h.inn b ob0 d g1 ht
      obtain ⟨od', e3, e4⟩ := back d od e1
      exact ⟨od', e3, by omega⟩
    · rw [g2] at ht ⊢
      have hdc : c = d := by injection (show some c = some d from ht)
      subst hdc
      obtain ⟨od', e3, e4⟩ := back c oc hoc
      exact ⟨od', e3, by show s ≤ _; omega⟩
  · obtain ⟨ob0, h1, ⟨_, h2⟩ | ⟨_, h2, h3⟩⟩ := key b ob hb
    · rw [h2] at heb ⊢; exact h.fin b ob0 h1 heb
    · rw [h3] at h1
      rw [h2] at heb ⊢; exact h.fin b o h1 heb
end

/-! The programs of the stages. -/
theorem length_entW (sum : List Int → Int) (es : List Ent) (seen : List Int) (h : seen.length = es.length) : (entW sum es seen).length = 3 * es.length := by
  unfold entW
  induction es generalizing seen with
  | nil => rfl
  | cons e es ih =>
    cases seen with
    | nil => simp at h
    | cons v seen =>
      rw [List.zip_cons_cons, List.flatMap_cons, List.length_append, ih seen (by simpa using h)]
      simp; omega
theorem length_recW (b : Int) (ws : List Int) : (recW b ws).length = ws.length := by simp [recW]
theorem mem_recW (b : Int) (ws : List Int) (p : Int × Int) (h : p ∈ recW b ws) : ∃ i : Nat, i < ws.length ∧ p.1 = b + 64 + 8 * (i : Int) := by
  unfold recW at h
  rw [List.mem_map] at h
  obtain ⟨⟨v, i⟩, h1, rfl⟩ := h
  have := List.mem_zipIdx h1
  exact ⟨i, by omega, rfl⟩
theorem length_chgW (es : List Ent) (seen : List Int) (h : seen.length = es.length) : (chgW es seen).length = es.length := by simp [chgW, h]
theorem chgW_get (es : List Ent) (seen : List Int) (h : seen.length = es.length) {q : Nat} (hq : q < es.length) : (chgW es seen).getD q (0, 0) = ((es.getD q E0).off, (es.getD q E0).after (gt0 seen q)) := by
  have hq' : q < seen.length := by omega
  unfold chgW
  rw [List.getD_eq_getElem?_getD, List.getElem?_map, List.getElem?_eq_getElem (by simp [h, hq])]
  simp [gt0, hq, hq']
theorem mem_chgW (es : List Ent) (seen : List Int) (h : seen.length = es.length) (p : Int × Int) (hp : p ∈ chgW es seen) : ∃ q, q < es.length ∧ p.1 = (es.getD q E0).off := by
  obtain ⟨q, hq, he⟩ := List.getElem_of_mem hp
  rw [length_chgW es seen h] at hq
  have := chgW_get es seen h hq
  refine ⟨q, hq, ?_⟩
  rw [List.getD_eq_getElem?_getD, List.getElem?_eq_getElem (by rw [length_chgW es seen h]; exact hq), Option.getD_some, he] at this
  rw [this]
section
variable {sum : List Int → Int} {at0 : Nat → Int} {n cnt N N' : Nat} {M : Nat → Prop} {σ : PwS} {xs xs' : List Int} {L L' : Nat → Int} {a c : Nat} {o oc oc' : OpS} {D' : DevS}
/-- What a stage's program stores. -/
theorem progInfo (hR : RegOk n cnt M at0) (h : OpOk cnt n M o) {s : Nat} (h1 : 1 ≤ s) (h4 : s ≤ 4) : ∃ ws, o.progOf sum at0 s = storesP ws ∧ (∀ p ∈ ws, ∃ k : Nat, k < 8 * n ∧ p.1 = 8 * (k : Int)) ∧
    (s ≠ 3 → ∀ p ∈ ws, ∀ k : Nat, p.1 = 8 * (k : Int) → ¬ M k) ∧ (s = 3 → ws = chgW o.es o.seen) ∧ 1 ≤ ws.length ∧ ws.length ≤ 18 := by
  obtain ⟨b, hb, hbj⟩ := hR.2 o.k h.k
  have hl1 := h.l1
  have hl6 := h.l6
  by_cases e1 : s = 1
  · refine ⟨_, by unfold OpS.progOf; rw [if_pos e1], fun p hp => ?_, fun _ p hp k hk => ?_, fun hh => by omega, ?_, ?_⟩
    · obtain ⟨i, hi, he⟩ := mem_recW _ _ p hp
      rw [length_entW sum _ _ h.sl] at hi
      exact ⟨b + (8 + i), (hbj (8 + i) (by omega)).1, by rw [he, hb]; omega⟩
    · obtain ⟨i, hi, he⟩ := mem_recW _ _ p hp
      rw [length_entW sum _ _ h.sl] at hi
      rw [show k = b + (8 + i) by omega]
      exact (hbj (8 + i) (by omega)).2
    · rw [length_recW, length_entW sum _ _ h.sl]; omega
    · rw [length_recW, length_entW sum _ _ h.sl]; omega
  · by_cases e2 : s = 2
    · refine ⟨_, by unfold OpS.progOf; rw [if_neg e1, if_pos e2], fun p hp => ?_, fun _ p hp k hk => ?_, fun hh => by omega, by simp, by simp⟩
      · rw [List.mem_singleton] at hp
        exact ⟨b + 0, (hbj 0 (by omega)).1, by rw [hp]; exact hb⟩
      · rw [List.mem_singleton] at hp
        rw [hp] at hk
        rw [show k = b + 0 by have : at0 o.k = 8 * (k : Int) := hk; omega]
        exact (hbj 0 (by omega)).2
    · by_cases e3 : s = 3
      · refine ⟨_, by unfold OpS.progOf; rw [if_neg e1, if_neg e2, if_pos e3], fun p hp => ?_, fun hh => absurd e3 hh, fun _ => rfl, ?_, ?_⟩
        · obtain ⟨q, hq, he⟩ := mem_chgW _ _ h.sl p hp
          exact ⟨_, (h.wd hq).2.1, by rw [he]; exact (h.wd hq).2.2⟩
        · rw [length_chgW _ _ h.sl]; omega
        · rw [length_chgW _ _ h.sl]; omega
      · refine ⟨_, by unfold OpS.progOf; rw [if_neg e1, if_neg e2, if_neg e3], fun p hp => ?_, fun _ p hp k hk => ?_, fun hh => by omega, by simp, by simp⟩
        · rw [List.mem_singleton] at hp
          exact ⟨b + 0, (hbj 0 (by omega)).1, by rw [hp]; exact hb⟩
        · rw [List.mem_singleton] at hp
          rw [hp] at hk
          rw [show k = b + 0 by have : at0 o.k = 8 * (k : Int) := hk; omega]
          exact (hbj 0 (by omega)).2
end
end Go.Proofs.YtjaohgnloddgfaaGreatDoor

namespace Go.Proofs.YtjaohgnloddgfaaGreatDoor
open Go.RowKit
set_option linter.unusedVariables false
set_option linter.unusedSimpArgs false

section
variable {sum : List Int → Int} {at0 : Nat → Int} {n cnt N N' : Nat} {M : Nat → Prop} {σ : PwS} {xs xs' : List Int} {L L' : Nat → Int} {a c : Nat} {o oc oc' : OpS} {D' : DevS}
theorem CurOk.info (h : CurOk sum at0 M oc xs L) (h1 : oc.stage ≠ 0) : 1 ≤ oc.stage ∧ oc.stage ≤ 4 ∧ oc.prog = oc.progOf sum at0 oc.stage := by
  rcases h with ⟨h, _⟩ | ⟨h, _, h2, _⟩ | ⟨h, _, h2, _⟩ | ⟨h, h2, _⟩
  · exact absurd h h1
  · exact ⟨by omega, by omega, h2⟩
  · exact ⟨by omega, by omega, by rw [h]; exact h2⟩
  · exact ⟨by omega, by omega, by rw [h]; exact h2⟩
theorem insX_length (xs : List Int) (p : Ins) : (insX xs p).length = xs.length := by unfold insX; split <;> simp
theorem PwS.ext' {σ τ : PwS} (h1 : σ.dev = τ.dev) (h2 : σ.busy = τ.busy) (h3 : σ.cur = τ.cur) (h4 : ∀ b, σ.ops b = τ.ops b) : σ = τ := by
  cases σ; cases τ
  simp only at h1 h2 h3 h4
  rw [h1, h2, h3, funext h4]
/-- The words after instruction j of the current stage. -/
structure InsOk (M : Nat → Prop) (oc : OpS) (j : Nat) (xs xs' : List Int) : Prop where
  out : ∀ k, M k → oc.stage ≠ 3 → xs'[k]? = xs[k]?
  other : ∀ k, M k → (∀ q, q < oc.es.length → wdE oc.es q ≠ k) → xs'[k]? = xs[k]?
  aft : oc.stage = 3 → ∀ q, q < oc.es.length → xs[wdE oc.es q]? = some ((oc.es.getD q E0).after (gt0 oc.seen q)) → xs'[wdE oc.es q]? = some ((oc.es.getD q E0).after (gt0 oc.seen q))
  or_ : oc.stage = 3 → ∀ q, q < oc.es.length → ∀ v, xs[wdE oc.es q]? = some v → xs'[wdE oc.es q]? = some v ∨ xs'[wdE oc.es q]? = some ((oc.es.getD q E0).after (gt0 oc.seen q))
  now : oc.stage = 3 → j < oc.es.length → xs'[wdE oc.es j]? = some ((oc.es.getD j E0).after (gt0 oc.seen j))
theorem insOk (hR : RegOk n cnt M at0) (hok : OpOk cnt n M oc) (hx : xs.length = 8 * n) (h1 : 1 ≤ oc.stage) (h4 : oc.stage ≤ 4) (hp : oc.prog = oc.progOf sum at0 oc.stage) {j : Nat} (hj : j < oc.prog.length) :
    vIns n (oc.prog.getD j (0, 0, 0)) ∧ InsOk M oc j xs (insX xs (oc.prog.getD j (0, 0, 0))) ∧ (oc.stage = 3 → j + 1 = oc.prog.length → oc.es.length ≤ j) ∧ oc.prog.length ≤ 37 := by
  obtain ⟨ws, hw, hv, hu, h3, hl1, hl18⟩ := progInfo (sum := sum) hR hok h1 h4
  rw [hp, hw] at hj ⊢
  have hl := length_storesP (ws := ws)
  have hcp := cpt_le (starts ws)
  have hsl : (starts ws).length = ws.length := by simp [starts]
  have hn0 : 0 < n := by
    cases ws with
    | nil => simp at hl1
    | cons p ws => obtain ⟨k, hk, _⟩ := hv p (by simp); omega
  have hc3 : oc.stage = 3 → ws.length = oc.es.length := fun e => by rw [h3 e, length_chgW _ _ hok.sl]
  have hmem : (storesP ws).getD j (0, 0, 0) ∈ storesP ws := by
    rw [List.getD_eq_getElem?_getD, List.getElem?_eq_getElem hj]; exact List.getElem_mem hj
  refine ⟨storesP_v hv hn0 _ hmem, ?_, fun e hh => ?_, by omega⟩
  · by_cases hjw : j < ws.length
    · have hg := storesP_lt hjw
      rw [hg]
      have hwm : ws.getD j (0, 0) ∈ ws := by
        rw [List.getD_eq_getElem?_getD, List.getElem?_eq_getElem hjw]; exact List.getElem_mem hjw
      obtain ⟨p, hpe⟩ : ∃ p, ws.getD j (0, 0) = p := ⟨_, rfl⟩
      rw [hpe] at hwm ⊢
      obtain ⟨kp, hkp, hkpe⟩ := hv p hwm
      have hset : insX xs (1, p.1, p.2) = xs.set kp p.2 := by
        unfold insX; rw [if_pos rfl]; show xs.set (p.1 / 8).toNat p.2 = _; rw [hkpe]; congr 1; omega
      rw [hset]
      have hne : ∀ k, kp ≠ k → (xs.set kp p.2)[k]? = xs[k]? := fun k hk => List.getElem?_set_ne hk
      have heq : (xs.set kp p.2)[kp]? = some p.2 := by rw [List.getElem?_set_self (by omega)]
      have h3p : oc.stage = 3 → kp = wdE oc.es j ∧ p.2 = (oc.es.getD j E0).after (gt0 oc.seen j) ∧ j < oc.es.length := fun e => by
        have hjl : j < oc.es.length := by rw [← hc3 e]; exact hjw
        rw [h3 e, chgW_get _ _ hok.sl hjl] at hpe
        refine ⟨?_, by rw [← hpe], hjl⟩
        unfold wdE
        rw [← hpe] at hkpe
        have : (oc.es.getD j E0).off = 8 * (kp : Int) := hkpe
        omega
      refine ⟨fun k hk he => hne k (fun hh => hu he p hwm kp hkpe (by rw [hh]; exact hk)), fun k hk ho => ?_, fun e q hq hv' => ?_, fun e q hq v hv' => ?_, fun e hjl => ?_⟩
      · by_cases e : oc.stage = 3
        · exact hne k (fun hh => ho j (h3p e).2.2 (by rw [← (h3p e).1]; exact hh))
        · exact hne k (fun hh => hu e p hwm kp hkpe (by rw [hh]; exact hk))
      · obtain ⟨g1, g2, g3⟩ := h3p e
        by_cases hqj : q = j
        · subst hqj; rw [← g1, heq, g2]
        · rw [hne _ (fun hh => hqj (hok.inj hq g3 (by rw [← hh, g1])))]; exact hv'
      · obtain ⟨g1, g2, g3⟩ := h3p e
        by_cases hqj : q = j
        · subst hqj; right; rw [← g1, heq, g2]
        · left; rw [hne _ (fun hh => hqj (hok.inj hq g3 (by rw [← hh, g1])))]; exact hv'
      · obtain ⟨g1, g2, g3⟩ := h3p e
        rw [← g1, heq, g2]
    · have hs : insX xs ((storesP ws).getD j (0, 0, 0)) = xs := by
        unfold insX; rw [if_neg (storesP_ge (by omega))]
      rw [hs]
      exact ⟨fun _ _ _ => rfl, fun _ _ _ => rfl, fun _ _ _ h => h, fun _ _ _ v h => .inl h, fun e hjl => absurd (hc3 e) (by omega)⟩
  · have := hc3 e
    have : 1 ≤ (cpt (starts ws)).length := by
      cases ws with
      | nil => simp at hl1
      | cons p ws =>
        have : startOf p.1 ∈ cpt (starts (p :: ws)) := by rw [mem_cpt']; simp [starts]
        exact List.length_pos_of_mem this
    omega
theorem Inv.jat (h : Inv sum at0 n cnt M N σ xs L) (ha : σ.ops a = some o) (hc : σ.cur = some c) (hoc : σ.ops c = some oc) (h1 : 1 ≤ oc.stage) (hl : 0 < oc.prog.length) :
    o.jat c oc.stage < oc.prog.length ∧ (oc.stage = 3 → ∀ q, q < o.jat c oc.stage → q < oc.es.length → xs[wdE oc.es q]? = some ((oc.es.getD q E0).after (gt0 oc.seen q))) := by
  unfold OpS.jat
  split
  · rename_i hh
    exact h.pos a o c oc ha hc hoc hh.1 hh.2 h1
  · exact ⟨hl, fun _ q hq => by omega⟩
/-- The words of the current operation after an instruction. -/
theorem CurOk.ins (h : CurOk sum at0 M oc xs L) (h1 : oc.stage ≠ 0) {j : Nat} (hI : InsOk M oc j xs xs') (hok : OpOk cnt n M oc) : CurOk sum at0 M oc xs' L := by
  rcases h with ⟨h, _⟩ | ⟨h, h2, h3, h4⟩ | ⟨h, h2, h3, h4, h5⟩ | ⟨h, h2, h3⟩
  · exact absurd h h1
  · exact .inr (.inl ⟨h, h2, h3, fun k hk => (hI.out k hk (by omega)).trans (h4 k hk)⟩)
  · refine .inr (.inr (.inl ⟨h, h2, h3, fun k hk ho => (hI.other k hk ho).trans (h4 k hk ho), fun q hq => ?_⟩))
    rcases h5 q hq with h6 | h6
    · exact hI.or_ h q hq _ h6
    · exact .inr (hI.aft h q hq h6)
  · exact .inr (.inr (.inr ⟨h, h2, fun k hk => (hI.out k hk (by omega)).trans (h3 k hk)⟩))
/-- How a stage's program is stepped. -/
theorem adv_eq (σ : PwS) (a : Nat) (o : OpS) (c : Nat) (oc : OpS) (hs : oc.stage ≠ 0) (herr : ((σ.dev.exec1 o.th (oc.prog.getD (o.jat c oc.stage) (0, 0, 0))).thr o.th).err = 0) :
    σ.adv sum at0 a o c oc = if o.jat c oc.stage + 1 = oc.prog.length then (({ σ with dev := σ.dev.exec1 o.th (oc.prog.getD (o.jat c oc.stage) (0, 0, 0)) } : PwS).setOp a (o.pos c oc.stage (o.jat c oc.stage + 1))).enter sum at0 c (if c = a then o.pos c oc.stage (o.jat c oc.stage + 1) else oc) (oc.stage + 1)
      else ({ σ with dev := σ.dev.exec1 o.th (oc.prog.getD (o.jat c oc.stage) (0, 0, 0)) } : PwS).setOp a (o.pos c oc.stage (o.jat c oc.stage + 1)) := by
  unfold PwS.adv
  rw [if_neg hs, OpS.pos_at]
  obtain ⟨j, hj⟩ : ∃ j, o.jat c oc.stage = j := ⟨_, rfl⟩
  rw [hj] at herr ⊢
  have e1 : (o.pos c oc.stage j).next = j := rfl
  simp only [e1]
  rw [if_neg (by show ¬ ((σ.dev.exec1 o.th (oc.prog.getD j (0, 0, 0))).thr o.th).err ≠ 0; rw [herr]; simp)]
  have e2 : ({ σ.setOp a (o.pos c oc.stage j) with dev := σ.dev.exec1 o.th (oc.prog.getD j (0, 0, 0)) } : PwS).setOp a { o.pos c oc.stage j with next := j + 1 } = ({ σ with dev := σ.dev.exec1 o.th (oc.prog.getD j (0, 0, 0)) } : PwS).setOp a (o.pos c oc.stage (j + 1)) := by
    refine PwS.ext' rfl rfl rfl (fun b => ?_)
    show (if b = a then _ else if b = a then _ else σ.ops b) = if b = a then _ else σ.ops b
    split
    · rfl
    · rfl
  rw [e2]
  rfl
theorem key_pos (o : OpS) (c s j : Nat) : (o.pos c s j).key = o.key := rfl
theorem key_setOp (σ : PwS) (ha : σ.ops a = some o) (h : oc'.key = o.key) (b : Nat) : ((σ.setOp a oc').ops b).map OpS.key = (σ.ops b).map OpS.key := by
  show (if b = a then some oc' else σ.ops b).map OpS.key = _
  split
  · rename_i hb; rw [hb, ha]; simp [h]
  · rfl
/-- The words after the current operation's words are stored. -/
theorem stored (hok : OpOk cnt n M oc) (h : CurOk sum at0 M oc xs L) (h3 : oc.stage = 3) (hall : ∀ q, q < oc.es.length → xs[wdE oc.es q]? = some ((oc.es.getD q E0).after (gt0 oc.seen q))) : satL L oc.es = true ∧ ∀ k, M k → xs[k]? = some (appL L oc.es k) := by
  rcases h with ⟨h, _⟩ | ⟨h, _⟩ | ⟨h, h2, _, h4, _⟩ | ⟨h, _⟩
  · omega
  · omega
  · refine ⟨by unfold satL; rw [List.all_eq_true]; intro q hq; exact (h2 q (by simpa using hq)).2, fun k hk => ?_⟩
    by_cases hq : ∃ q, q < oc.es.length ∧ wdE oc.es q = k
    · obtain ⟨q, hq, rfl⟩ := hq
      rw [hall q hq, appL_at hok hq, (h2 q hq).1]
    · rw [appL_ne (fun q hq' he => hq ⟨q, hq', he⟩)]
      exact h4 k hk (fun q hq' he => hq ⟨q, hq', he⟩)
  · omega
theorem appL_range (hok : OpOk cnt n M oc) (hL : ∀ k, M k → 0 ≤ L k ∧ L k < 4611686018427387904) : ∀ k, M k → 0 ≤ appL L oc.es k ∧ appL L oc.es k < 4611686018427387904 := by
  intro k hk
  by_cases hq : ∃ q, q < oc.es.length ∧ wdE oc.es q = k
  · obtain ⟨q, hq, rfl⟩ := hq
    rw [appL_at hok hq]
    exact Ent.after_range _ _ (hok.at_ hq).new
  · rw [appL_ne (fun q hq' he => hq ⟨q, hq', he⟩)]; exact hL k hk
/-- An instruction of the current operation. -/
theorem Inv.adv1 (h : Inv sum at0 n cnt M N σ xs L) (hR : RegOk n cnt M at0) (hN : N < 1000000) (ha : σ.ops a = some o) (hc : σ.cur = some c) (hoc : σ.ops c = some oc) (hs : oc.stage ≠ 0) :
    ∃ xs' L', Inv sum at0 n cnt M (N + 1) (σ.adv sum at0 a o c oc) xs' L' ∧ Eff a σ (σ.adv sum at0 a o c oc) L L' := by
  obtain ⟨oc2, g1, g2, g3, g4⟩ := h.run c hc
  rw [hoc] at g1
  injection g1 with g1
  subst g1
  obtain ⟨h1, h4, hp⟩ := g4.info hs
  have hok := h.ok c oc hoc
  obtain ⟨ws, hw, _⟩ := progInfo (sum := sum) hR hok h1 h4
  have hl0 : 0 < oc.prog.length := by rw [hp, hw, length_storesP]; omega
  obtain ⟨hj, hj3⟩ := h.jat ha hc hoc h1 hl0
  have hth := (h.ok a o ha).th
  obtain ⟨j, hje⟩ : ∃ j, o.jat c oc.stage = j := ⟨_, rfl⟩
  obtain ⟨hv, hI, hlast, _⟩ := insOk (sum := sum) (xs := xs) hR hok h.on.length h1 h4 hp (j := j) (by rw [← hje]; exact hj)
  have hon := h.on.ins o.th hth hN hv
  have hcur' := g4.ins hs hI hok
  have hD := h.setD hc hoc hon hcur' hI.aft
  rw [adv_eq σ a o c oc hs (by rw [hje]; exact hon.err _)]
  rw [hje] at hj hj3 ⊢
  obtain ⟨xs', hxs⟩ : ∃ xs', insX xs (oc.prog.getD j (0, 0, 0)) = xs' := ⟨_, rfl⟩
  obtain ⟨D', hD'⟩ : ∃ D', σ.dev.exec1 o.th (oc.prog.getD j (0, 0, 0)) = D' := ⟨_, rfl⟩
  rw [hxs] at hI hon hcur' hD
  rw [hD'] at hon hD ⊢
  have hnow : oc.stage = 3 → ∀ q, q < j + 1 → q < oc.es.length → xs'[wdE oc.es q]? = some ((oc.es.getD q E0).after (gt0 oc.seen q)) := fun e q hq hql => by
    by_cases hqj : q = j
    · subst hqj; exact hI.now e hql
    · exact hI.aft e q hql (hj3 e q (by omega) hql)
  by_cases hjl : j + 1 = oc.prog.length
  · rw [if_pos hjl]
    unfold PwS.enter
    by_cases h4' : oc.stage + 1 ≤ 4
    · rw [if_pos h4']
      have mk : ∀ L', (∀ k, M k → 0 ≤ L' k ∧ L' k < 4611686018427387904) → CurOk sum at0 M { oc with stage := oc.stage + 1, prog := oc.progOf sum at0 (oc.stage + 1) } xs' L' →
          Inv sum at0 n cnt M (N + 1) ((({ σ with dev := D' } : PwS).setOp a (o.pos c oc.stage (j + 1))).setOp c { (if c = a then o.pos c oc.stage (j + 1) else oc) with stage := oc.stage + 1, prog := (if c = a then o.pos c oc.stage (j + 1) else oc).progOf sum at0 (oc.stage + 1) }) xs' L' := by
        intro L' hL' hCur
        have hC := hD.setC (oc' := { oc with stage := oc.stage + 1, prog := oc.progOf sum at0 (oc.stage + 1) }) hc hoc ⟨hok.th, hok.k, hok.l1, hok.l6, hok.ent, hok.nd, hok.perm, hok.sl, hok.sr⟩ rfl rfl rfl (.inl (Nat.lt_succ_self _)) (Nat.le_succ _) g3 hon hL' (some c) (.inl ⟨rfl, g2, hCur⟩)
        by_cases hca : c = a
        · subst hca
          rw [ha] at hoc
          injection hoc with hoc
          subst hoc
          have hA := hC.setA (c := c) (a := c) (oc := { o with stage := o.stage + 1, prog := o.progOf sum at0 (o.stage + 1) }) (o := { o with stage := o.stage + 1, prog := o.progOf sum at0 (o.stage + 1) }) (s := o.stage) (j := j + 1) (if_pos rfl) (if_pos rfl) (Nat.le_succ _) (fun _ he => absurd he (by show ¬ o.stage = o.stage + 1; omega))
          have e : (((({ σ with dev := D' } : PwS).setOp c (o.pos c o.stage (j + 1))).setOp c { (if c = c then o.pos c o.stage (j + 1) else o) with stage := o.stage + 1, prog := (if c = c then o.pos c o.stage (j + 1) else o).progOf sum at0 (o.stage + 1) })) = ({ ({ σ with dev := D' } : PwS).setOp c { o with stage := o.stage + 1, prog := o.progOf sum at0 (o.stage + 1) } with dev := D', cur := some c } : PwS).setOp c (OpS.pos { o with stage := o.stage + 1, prog := o.progOf sum at0 (o.stage + 1) } c o.stage (j + 1)) := by
            refine PwS.ext' rfl rfl hc (fun b => ?_)
            show (if b = c then _ else if b = c then _ else σ.ops b) = if b = c then _ else if b = c then _ else σ.ops b
            rw [if_pos rfl]
            split <;> rfl
          rw [e]; exact hA
        · have hA := hC.setA (c := c) (a := a) (oc := { oc with stage := oc.stage + 1, prog := oc.progOf sum at0 (oc.stage + 1) }) (o := o) (s := oc.stage) (j := j + 1) (if_pos rfl) ((if_neg (fun he => hca he.symm)).trans ha) (Nat.le_succ _) (fun _ he => absurd he (by show ¬ oc.stage = oc.stage + 1; omega))
          have e : (((({ σ with dev := D' } : PwS).setOp a (o.pos c oc.stage (j + 1))).setOp c { (if c = a then o.pos c oc.stage (j + 1) else oc) with stage := oc.stage + 1, prog := (if c = a then o.pos c oc.stage (j + 1) else oc).progOf sum at0 (oc.stage + 1) })) = ({ ({ σ with dev := D' } : PwS).setOp c { oc with stage := oc.stage + 1, prog := oc.progOf sum at0 (oc.stage + 1) } with dev := D', cur := some c } : PwS).setOp a (o.pos c oc.stage (j + 1)) := by
            refine PwS.ext' rfl rfl hc (fun b => ?_)
            show (if b = c then _ else if b = a then _ else σ.ops b) = if b = a then _ else if b = c then _ else σ.ops b
            rw [if_neg hca]
            by_cases hb : b = c
            · subst hb; rw [if_pos rfl, if_neg hca, if_pos rfl]
            · rw [if_neg hb, if_neg hb]
          rw [e]; exact hA
      have hkey : ∀ v, ({ (if c = a then o.pos c oc.stage (j + 1) else oc) with stage := oc.stage + 1, prog := (if c = a then o.pos c oc.stage (j + 1) else oc).progOf sum at0 (oc.stage + 1) } : OpS).key = (oc.es, oc.th, oc.k, v) ↔ ({ oc with stage := oc.stage + 1, prog := oc.progOf sum at0 (oc.stage + 1) } : OpS).key = (oc.es, oc.th, oc.k, v) := by
        intro v
        by_cases hca : c = a
        · subst hca
          rw [ha] at hoc
          injection hoc with hoc
          subst hoc
          rw [if_pos rfl]; exact Iff.rfl
        · rw [if_neg hca]
      by_cases h3 : oc.stage = 3
      · obtain ⟨s1, s2⟩ := stored hok hcur' h3 (fun q hq => hnow h3 q (by have := hlast h3 hjl; omega) hq)
        have hr : ({ oc with stage := oc.stage + 1, prog := oc.progOf sum at0 (oc.stage + 1) } : OpS).key = (oc.es, oc.th, oc.k, some true) := by
          show (oc.es, oc.th, oc.k, _) = _
          unfold OpS.res
          rw [if_neg (by show ¬ oc.done = true; rw [g2]; simp), if_pos (by show 4 ≤ oc.stage + 1; omega)]
        have hk2 := (hkey _).2 hr
        refine ⟨xs', appL L oc.es, mk _ (appL_range hok h.hL) (.inr (.inr (.inr ⟨by show oc.stage + 1 = 4; omega, by rw [show oc.stage + 1 = 4 by omega]; rfl, s2⟩))), .inr ⟨c, oc, _, hoc, if_pos rfl, ?_, ?_, ?_, ?_, ?_, ?_, .inl hc, g3, fun b hb => ?_⟩⟩
        · unfold OpS.res; rw [if_neg (by rw [g2]; simp), if_neg (by omega)]
        · rw [s1]; exact congrArg (fun x => x.2.2.2) hk2
        · rw [s1]; rfl
        · exact congrArg (fun x => x.1) hk2
        · exact congrArg (fun x => x.2.1) hk2
        · exact congrArg (fun x => x.2.2.1) hk2
        · show (if b = c then _ else ((({ σ with dev := D' } : PwS).setOp a (o.pos c oc.stage (j + 1))).ops b)).map OpS.key = _
          rw [if_neg hb]
          exact key_setOp ({ σ with dev := D' } : PwS) ha (key_pos _ _ _ _) b
      · have hr : ({ oc with stage := oc.stage + 1, prog := oc.progOf sum at0 (oc.stage + 1) } : OpS).key = (oc.es, oc.th, oc.k, none) := by
          show (oc.es, oc.th, oc.k, _) = _
          unfold OpS.res
          rw [if_neg (by show ¬ oc.done = true; rw [g2]; simp), if_neg (by show ¬ 4 ≤ oc.stage + 1; omega)]
        have hr0 : oc.key = (oc.es, oc.th, oc.k, none) := by
          show (oc.es, oc.th, oc.k, _) = _
          unfold OpS.res
          rw [if_neg (by rw [g2]; simp), if_neg (by omega)]
        have hk2 := (hkey _).2 hr
        refine ⟨xs', L, mk _ h.hL ?_, .inl ⟨rfl, fun b => ?_⟩⟩
        · rcases hcur' with ⟨e, _⟩ | ⟨e, f2, f3, f4⟩ | ⟨e, _⟩ | ⟨e, _⟩
          · exact absurd e hs
          · by_cases e1 : oc.stage = 1
            · exact .inr (.inl ⟨.inr (by show oc.stage + 1 = 2; omega), f2, rfl, f4⟩)
            · refine .inr (.inr (.inl ⟨by show oc.stage + 1 = 3; omega, f2, by rw [show oc.stage + 1 = 3 by omega]; rfl, fun k hk _ => f4 k hk, fun q hq => .inl (f4 _ (hok.wd hq).1)⟩))
          · exact absurd e h3
          · omega
        · show (if b = c then some _ else ((({ σ with dev := D' } : PwS).setOp a (o.pos c oc.stage (j + 1))).ops b)).map OpS.key = _
          by_cases hb : b = c
          · subst hb
            rw [if_pos rfl, hoc, Option.map_some, Option.map_some, hk2, hr0]
          · rw [if_neg hb]
            exact key_setOp ({ σ with dev := D' } : PwS) ha (key_pos _ _ _ _) b
    · rw [if_neg h4']
      have h44 : oc.stage = 4 := by omega
      unfold PwS.fin
      have hM : ∀ k, M k → xs'[k]? = some (L k) := by
        rcases hcur' with ⟨e, _⟩ | ⟨e, _⟩ | ⟨e, _⟩ | ⟨e, _, f⟩
        · omega
        · omega
        · omega
        · exact f
      have hC := hD.setC (oc' := { oc with stage := oc.stage + 1, done := true, changed := true }) hc hoc ⟨hok.th, hok.k, hok.l1, hok.l6, hok.ent, hok.nd, hok.perm, hok.sl, hok.sr⟩ rfl rfl rfl (.inl (Nat.lt_succ_self _)) (Nat.le_succ _) g3 hon h.hL none (.inr ⟨rfl, rfl, hM⟩)
      have hr0 : oc.key = (oc.es, oc.th, oc.k, some true) := by
        show (oc.es, oc.th, oc.k, _) = _
        unfold OpS.res
        rw [if_neg (by rw [g2]; simp), if_pos (by omega)]
      by_cases hca : c = a
      · subst hca
        rw [ha] at hoc
        injection hoc with hoc
        subst hoc
        have hA := hC.setA (c := c) (a := c) (oc := { o with stage := o.stage + 1, done := true, changed := true }) (o := { o with stage := o.stage + 1, done := true, changed := true }) (s := o.stage) (j := j + 1) (if_pos rfl) (if_pos rfl) (Nat.le_succ _) (fun hh => by cases hh)
        refine ⟨xs', L, ?_, .inl ⟨rfl, fun b => ?_⟩⟩
        · have e : ({ (({ σ with dev := D' } : PwS).setOp c (o.pos c o.stage (j + 1))).setOp c { { (if c = c then o.pos c o.stage (j + 1) else o) with stage := o.stage + 1 } with done := true, changed := true } with cur := none } : PwS) = ({ ({ σ with dev := D' } : PwS).setOp c { o with stage := o.stage + 1, done := true, changed := true } with dev := D', cur := none } : PwS).setOp c (OpS.pos { o with stage := o.stage + 1, done := true, changed := true } c o.stage (j + 1)) := by
            refine PwS.ext' rfl rfl rfl (fun b => ?_)
            show (if b = c then _ else if b = c then _ else σ.ops b) = if b = c then _ else if b = c then _ else σ.ops b
            rw [if_pos rfl]
            split <;> rfl
          rw [e]; exact hA
        · show (if b = c then some _ else if b = c then _ else σ.ops b).map OpS.key = _
          by_cases hb : b = c
          · subst hb
            rw [if_pos rfl, if_pos rfl, ha, Option.map_some, Option.map_some, hr0]
            rfl
          · rw [if_neg hb, if_neg hb]
      · have hA := hC.setA (c := c) (a := a) (oc := { oc with stage := oc.stage + 1, done := true, changed := true }) (o := o) (s := oc.stage) (j := j + 1) (if_pos rfl) ((if_neg (fun he => hca he.symm)).trans ha) (Nat.le_succ _) (fun hh => by cases hh)
        refine ⟨xs', L, ?_, .inl ⟨rfl, fun b => ?_⟩⟩
        · have e : ({ (({ σ with dev := D' } : PwS).setOp a (o.pos c oc.stage (j + 1))).setOp c { { (if c = a then o.pos c oc.stage (j + 1) else oc) with stage := oc.stage + 1 } with done := true, changed := true } with cur := none } : PwS) = ({ ({ σ with dev := D' } : PwS).setOp c { oc with stage := oc.stage + 1, done := true, changed := true } with dev := D', cur := none } : PwS).setOp a (o.pos c oc.stage (j + 1)) := by
            refine PwS.ext' rfl rfl rfl (fun b => ?_)
            show (if b = c then _ else if b = a then _ else σ.ops b) = if b = a then _ else if b = c then _ else σ.ops b
            rw [if_neg hca]
            by_cases hb : b = c
            · subst hb; rw [if_pos rfl, if_neg hca, if_pos rfl]
            · rw [if_neg hb, if_neg hb]
          rw [e]; exact hA
        · show (if b = c then some _ else if b = a then _ else σ.ops b).map OpS.key = _
          by_cases hb : b = c
          · subst hb
            rw [if_pos rfl, if_neg hca, hoc, Option.map_some, Option.map_some, hr0]
            rfl
          · rw [if_neg hb]
            exact key_setOp ({ σ with dev := D' } : PwS) ha (key_pos _ _ _ _) b
  · rw [if_neg hjl]
    refine ⟨xs', L, hD.setA hoc ha (Nat.le_refl _) (fun _ _ => ⟨by omega, hnow⟩), .inl ⟨rfl, fun b => key_setOp ({ σ with dev := D' } : PwS) ha (key_pos _ _ _ _) b⟩⟩
end
end Go.Proofs.YtjaohgnloddgfaaGreatDoor

namespace Go.Proofs.YtjaohgnloddgfaaGreatDoor
open Go.RowKit
set_option linter.unusedVariables false
set_option linter.unusedSimpArgs false

section
variable {sum : List Int → Int} {at0 : Nat → Int} {n cnt N N' : Nat} {M : Nat → Prop} {σ σ' σ2 : PwS} {xs xs' : List Int} {L L' : Nat → Int} {a c : Nat} {o oc oc' : OpS} {D D' : DevS}
theorem Inv.mono (h : Inv sum at0 n cnt M N σ xs L) (hN : N ≤ N') : Inv sum at0 n cnt M N' σ xs L := ⟨h.on.mono hN, h.hL, h.ok, h.idle, h.run, h.fresh, h.pos, h.inn, h.fin⟩
theorem On.load_at (h : On D n xs N) {k : Nat} (hk : k < 8 * n) {v : Int} (hv : xs[k]? = some v) (i : Nat) : D.on i (D.wordB (8 * (k : Int))) = D ∧ D.load (8 * (k : Int)) = v := by
  have hw : D.wordB (8 * (k : Int)) = true := by unfold DevS.wordB; rw [h.nl]; simp; omega
  refine ⟨by unfold DevS.on; rw [h.off, hw]; simp, ?_⟩
  unfold DevS.load
  rw [hw, show D.onB true = true by simp [DevS.onB, h.off], if_pos rfl, h.cur, show (8 * (k : Int) / 8).toNat = k by omega, hv]
  rfl
theorem load_eq (h : On σ.dev n xs N) {q k i : Nat} (hq : oc.order.getD oc.loaded 0 = q) (hk : (oc.es.getD q E0).off = 8 * (k : Int)) (hkn : k < 8 * n) {v : Int} (hv : xs[k]? = some v) :
    σ.load sum at0 c oc i = if (oc.es.getD q E0).sat v then (if oc.loaded + 1 = oc.order.length then (σ.setOp c { oc with seen := oc.seen.set q v, loaded := oc.loaded + 1 }).enter sum at0 c { oc with seen := oc.seen.set q v, loaded := oc.loaded + 1 } 1 else σ.setOp c { oc with seen := oc.seen.set q v, loaded := oc.loaded + 1 }) else σ.fin c oc false := by
  obtain ⟨e1, e2⟩ := h.load_at hkn hv i
  unfold PwS.load
  simp only [hq]
  rw [show (oc.es.getD q ⟨0, 0, 0, false⟩) = oc.es.getD q E0 from rfl, hk, e1, e2]
  have e3 : ({ σ with dev := σ.dev } : PwS) = σ := rfl
  rw [e3, if_neg (by rw [h.err]; simp)]
theorem gt0_set {ys : List Int} {q : Nat} (hq : q < ys.length) (v : Int) (p : Nat) : gt0 (ys.set q v) p = if p = q then v else gt0 ys p := by
  unfold gt0
  by_cases hp : p = q
  · subst hp; simp [hq]
  · simp [List.getElem?_set, hp, show ¬ q = p from fun h => hp h.symm]
/-- A word of the current operation is loaded. -/
theorem Inv.load1 (h : Inv sum at0 n cnt M N σ xs L) (hc : σ.cur = some c) (hoc : σ.ops c = some oc) (hs : oc.stage = 0) (i : Nat) :
    Inv sum at0 n cnt M N (σ.load sum at0 c oc i) xs L ∧ Eff a σ (σ.load sum at0 c oc i) L L := by
  obtain ⟨oc2, g1, g2, g3, g4⟩ := h.run c hc
  rw [hoc] at g1
  injection g1 with g1
  subst g1
  have hok := h.ok c oc hoc
  have hr0 : oc.res = none := by unfold OpS.res; rw [if_neg (by rw [g2]; simp), if_neg (by omega)]
  rcases g4 with ⟨_, hl, hse, hM⟩ | ⟨e, _⟩ | ⟨e, _⟩ | ⟨e, _⟩
  rotate_left
  · omega
  · omega
  · omega
  obtain ⟨q, hq⟩ : ∃ q, oc.order.getD oc.loaded 0 = q := ⟨_, rfl⟩
  have hql : q < oc.es.length := by rw [← hq]; exact hok.order_get hl
  obtain ⟨w1, w2, w3⟩ := hok.wd hql
  have hv := hM _ w1
  rw [load_eq h.on hq w3 w2 hv]
  have hqs : q < oc.seen.length := by rw [hok.sl]; exact hql
  have hgs := gt0_set hqs (L (wdE oc.es q))
  cases hsat : (oc.es.getD q E0).sat (L (wdE oc.es q)) with
  | false =>
    rw [if_neg (by simp)]
    unfold PwS.fin
    have hC := h.setC (oc' := { oc with done := true, changed := false }) hc hoc ⟨hok.th, hok.k, hok.l1, hok.l6, hok.ent, hok.nd, hok.perm, hok.sl, hok.sr⟩ rfl rfl rfl (.inr hs) (Nat.le_refl _) g3 h.on h.hL none (.inr ⟨rfl, rfl, hM⟩)
    have hf : satL L oc.es = false := by
      unfold satL
      rw [List.all_eq_false]
      exact ⟨q, by simpa using hql, by rw [hsat]; simp⟩
    refine ⟨hC, .inr ⟨c, oc, { oc with done := true, changed := false }, hoc, if_pos rfl, hr0, by rw [hf]; rfl, by rw [hf]; rfl, rfl, rfl, rfl, .inl hc, g3, fun b hb => ?_⟩⟩
    show (if b = c then _ else σ.ops b).map OpS.key = _
    rw [if_neg hb]
  | true =>
    rw [if_pos rfl]
    have hokn : OpOk cnt n M { oc with seen := oc.seen.set q (L (wdE oc.es q)), loaded := oc.loaded + 1 } := by
      refine ⟨hok.th, hok.k, hok.l1, hok.l6, hok.ent, hok.nd, hok.perm, by show (oc.seen.set _ _).length = _; rw [List.length_set]; exact hok.sl, fun p => ?_⟩
      show 0 ≤ gt0 (oc.seen.set _ _) p ∧ gt0 (oc.seen.set _ _) p < _
      rw [hgs]
      split
      · exact h.hL _ w1
      · exact hok.sr p
    have hseen : ∀ j, j < oc.loaded + 1 → gt0 (oc.seen.set q (L (wdE oc.es q))) (oc.order.getD j 0) = L (wdE oc.es (oc.order.getD j 0)) ∧ (oc.es.getD (oc.order.getD j 0) E0).sat (L (wdE oc.es (oc.order.getD j 0))) = true := by
      intro j hj
      by_cases hjl : j = oc.loaded
      · subst hjl
        rw [hq, hgs, if_pos rfl]
        exact ⟨rfl, hsat⟩
      · have hne : oc.order.getD j 0 ≠ q := fun he => hjl (hok.order_inj (by omega) hl (by rw [he, hq]))
        rw [hgs, if_neg hne]
        exact hse j (by omega)
    by_cases hlast : oc.loaded + 1 = oc.order.length
    · rw [if_pos hlast]
      unfold PwS.enter
      rw [if_pos (by omega)]
      have hC := h.setC (oc' := { oc with seen := oc.seen.set q (L (wdE oc.es q)), loaded := oc.loaded + 1, stage := 1, prog := ({ oc with seen := oc.seen.set q (L (wdE oc.es q)), loaded := oc.loaded + 1 } : OpS).progOf sum at0 1 }) hc hoc ⟨hok.th, hok.k, hok.l1, hok.l6, hok.ent, hok.nd, hok.perm, hokn.sl, hokn.sr⟩ rfl rfl rfl (.inl (by show oc.stage < 1; omega)) (by show oc.stage ≤ 1; omega) g3 h.on h.hL (some c)
        (.inl ⟨rfl, g2, .inr (.inl ⟨.inl rfl, fun p hp => by
          obtain ⟨j, hj, he⟩ := hok.order_all (q := p) hp
          have := hseen j (by omega)
          rw [he] at this
          exact this, rfl, hM⟩)⟩)
      have e : (σ.setOp c { oc with seen := oc.seen.set q (L (wdE oc.es q)), loaded := oc.loaded + 1 }).setOp c { { oc with seen := oc.seen.set q (L (wdE oc.es q)), loaded := oc.loaded + 1 } with stage := 1, prog := ({ oc with seen := oc.seen.set q (L (wdE oc.es q)), loaded := oc.loaded + 1 } : OpS).progOf sum at0 1 } = { σ.setOp c { oc with seen := oc.seen.set q (L (wdE oc.es q)), loaded := oc.loaded + 1, stage := 1, prog := ({ oc with seen := oc.seen.set q (L (wdE oc.es q)), loaded := oc.loaded + 1 } : OpS).progOf sum at0 1 } with dev := σ.dev, cur := some c } := by
        refine PwS.ext' rfl rfl hc (fun b => ?_)
        show (if b = c then _ else if b = c then _ else σ.ops b) = if b = c then _ else σ.ops b
        split <;> rfl
      rw [e]
      refine ⟨hC, .inl ⟨rfl, fun b => ?_⟩⟩
      refine key_setOp σ hoc ?_ b
      show (oc.es, oc.th, oc.k, OpS.res _) = (oc.es, oc.th, oc.k, oc.res)
      rw [hr0]
      unfold OpS.res
      rw [if_neg (by show ¬ oc.done = true; rw [g2]; simp), if_neg (by show ¬ 4 ≤ 1; omega)]
    · rw [if_neg hlast]
      have hC := h.setC (oc' := { oc with seen := oc.seen.set q (L (wdE oc.es q)), loaded := oc.loaded + 1 }) hc hoc hokn rfl rfl rfl (.inr hs) (Nat.le_refl _) g3 h.on h.hL (some c)
        (.inl ⟨rfl, g2, .inl ⟨hs, by show oc.loaded + 1 < oc.order.length; omega, hseen, hM⟩⟩)
      have e : σ.setOp c { oc with seen := oc.seen.set q (L (wdE oc.es q)), loaded := oc.loaded + 1 } = { σ.setOp c { oc with seen := oc.seen.set q (L (wdE oc.es q)), loaded := oc.loaded + 1 } with dev := σ.dev, cur := some c } := PwS.ext' rfl rfl hc (fun b => rfl)
      rw [e]
      exact ⟨hC, .inl ⟨rfl, fun b => key_setOp (oc' := { oc with seen := oc.seen.set q (L (wdE oc.es q)), loaded := oc.loaded + 1 }) σ hoc rfl b⟩⟩
/-- An instruction by an operation's thread. -/
theorem Inv.adv (h : Inv sum at0 n cnt M N σ xs L) (hR : RegOk n cnt M at0) (hN : N < 1000000) (ha : σ.ops a = some o) (hc : σ.cur = some c) (hoc : σ.ops c = some oc) :
    ∃ xs' L', Inv sum at0 n cnt M (N + 1) (σ.adv sum at0 a o c oc) xs' L' ∧ Eff a σ (σ.adv sum at0 a o c oc) L L' := by
  by_cases hs : oc.stage = 0
  · obtain ⟨h1, h2⟩ := h.load1 (a := a) hc hoc hs o.th
    have e : σ.adv sum at0 a o c oc = σ.load sum at0 c oc o.th := by unfold PwS.adv; rw [if_pos hs]
    rw [e]
    exact ⟨xs, L, h1.mono (Nat.le_succ _), h2⟩
  · exact h.adv1 hR hN ha hc hoc hs
def OpS.fl (o : OpS) : Bool × Int × Nat := (o.ended, o.err, o.k)
/-- Nothing has ended. -/
def SameFl (σ σ' : PwS) : Prop := σ'.busy = σ.busy ∧ ∀ b, (σ'.ops b).map OpS.fl = (σ.ops b).map OpS.fl
theorem SameFl.refl (σ : PwS) : SameFl σ σ := ⟨rfl, fun _ => rfl⟩
theorem SameFl.trans (h : SameFl σ σ') (h2 : SameFl σ' σ2) : SameFl σ σ2 := ⟨h2.1.trans h.1, fun b => (h2.2 b).trans (h.2 b)⟩
theorem SameFl.dev (D : DevS) : SameFl σ { σ with dev := D } := ⟨rfl, fun _ => rfl⟩
theorem SameFl.cur (c : Option Nat) : SameFl σ { σ with cur := c } := ⟨rfl, fun _ => rfl⟩
theorem SameFl.set (ha : (σ.ops a).map OpS.fl = some o.fl) : SameFl σ (σ.setOp a o) := by
  refine ⟨rfl, fun b => ?_⟩
  show (if b = a then some o else σ.ops b).map OpS.fl = _
  split
  · rename_i hb; rw [hb, ha]; rfl
  · rfl
theorem SameFl.at_ (h : SameFl σ σ') (ha : (σ.ops a).map OpS.fl = some o.fl) : (σ'.ops a).map OpS.fl = some o.fl := (h.2 a).trans ha
theorem fin_fl (hoc : (σ.ops c).map OpS.fl = some oc.fl) (ch : Bool) : SameFl σ (σ.fin c oc ch) := (SameFl.set (o := { oc with done := true, changed := ch }) hoc).trans (SameFl.cur none)
theorem enter_fl (hoc : (σ.ops c).map OpS.fl = some oc.fl) (s : Nat) : SameFl σ (σ.enter sum at0 c oc s) := by
  unfold PwS.enter
  split
  · exact SameFl.set hoc
  · exact fin_fl (oc := { oc with stage := s }) hoc true
theorem adv_fl (ha : σ.ops a = some o) (hoc : σ.ops c = some oc) : SameFl σ (σ.adv sum at0 a o c oc) := by
  have hoc' : (σ.ops c).map OpS.fl = some oc.fl := by rw [hoc]; rfl
  have ha' : (σ.ops a).map OpS.fl = some o.fl := by rw [ha]; rfl
  unfold PwS.adv
  split
  · unfold PwS.load
    dsimp only
    split
    · exact SameFl.dev _
    · split
      · split
        · have h1 : SameFl σ ({ σ with dev := σ.dev.on o.th (σ.dev.wordB (oc.es.getD (oc.order.getD oc.loaded 0) ⟨0, 0, 0, false⟩).off) } : PwS) := SameFl.dev _
          have h2 := h1.trans (SameFl.set (o := { oc with seen := oc.seen.set (oc.order.getD oc.loaded 0) (σ.dev.load (oc.es.getD (oc.order.getD oc.loaded 0) ⟨0, 0, 0, false⟩).off), loaded := oc.loaded + 1 }) (h1.at_ (o := oc) hoc'))
          exact h2.trans (enter_fl (oc := { oc with seen := oc.seen.set (oc.order.getD oc.loaded 0) (σ.dev.load (oc.es.getD (oc.order.getD oc.loaded 0) ⟨0, 0, 0, false⟩).off), loaded := oc.loaded + 1 }) (h2.at_ (o := oc) hoc') _)
        · exact (SameFl.dev _).trans (SameFl.set hoc')
      · exact (SameFl.dev _).trans (fin_fl (σ := { σ with dev := _ }) hoc' _)
  · rw [OpS.pos_at]
    dsimp only
    have h1 : SameFl σ (σ.setOp a (o.pos c oc.stage (o.jat c oc.stage))) := SameFl.set ha'
    have h2 := h1.trans (SameFl.dev (σ.dev.exec1 o.th (oc.prog.getD (o.pos c oc.stage (o.jat c oc.stage)).next (0, 0, 0))))
    split
    · exact h2
    · have h3 := h2.trans (SameFl.set (a := a) (o := { o.pos c oc.stage (o.jat c oc.stage) with next := (o.pos c oc.stage (o.jat c oc.stage)).next + 1 }) (h2.at_ (o := o) ha'))
      split
      · refine h3.trans (enter_fl ?_ _)
        split
        · rename_i hca
          subst hca; exact h3.at_ (o := o) ha'
        · exact h3.at_ (o := oc) hoc'
      · exact h3
theorem Eff.keys (h : Eff a σ σ' L L') (hk : ∀ b, (σ2.ops b).map OpS.key = (σ'.ops b).map OpS.key) : Eff a σ σ2 L L' := by
  rcases h with ⟨h1, h2⟩ | ⟨c, oc, oc', h1, h2, h3, h4, h5, h6, h7, h8, h9, h10, h11⟩
  · exact .inl ⟨h1, fun b => (hk b).trans (h2 b)⟩
  · have := hk c
    rw [h2, Option.map_some] at this
    cases hc : σ2.ops c with
    | none => rw [hc] at this; cases this
    | some oc'' =>
      rw [hc, Option.map_some] at this
      injection this with this
      have e1 : oc''.es = oc'.es := congrArg (fun x => x.1) this
      have e2 : oc''.th = oc'.th := congrArg (fun x => x.2.1) this
      have e3 : oc''.k = oc'.k := congrArg (fun x => x.2.2.1) this
      have e4 : oc''.res = oc'.res := congrArg (fun x => x.2.2.2) this
      exact .inr ⟨c, oc, oc'', h1, hc, h3, e4.trans h4, h5, e1.trans h6, e2.trans h7, e3.trans h8, h9, h10, fun b hb => (hk b).trans (h11 b hb)⟩
theorem Eff.sm (h : Eff a σ σ' L L') {b : Nat} {ob : OpS} (hb : σ.ops b = some ob) : ∃ ob', σ'.ops b = some ob' ∧ ob'.es = ob.es ∧ ob'.th = ob.th ∧ ob'.k = ob.k := by
  have key : (σ'.ops b).map OpS.key = (σ.ops b).map OpS.key → ∃ ob', σ'.ops b = some ob' ∧ ob'.es = ob.es ∧ ob'.th = ob.th ∧ ob'.k = ob.k := by
    intro he
    rw [hb, Option.map_some] at he
    cases hb' : σ'.ops b with
    | none => rw [hb'] at he; cases he
    | some ob' =>
      rw [hb', Option.map_some] at he
      injection he with he
      exact ⟨ob', rfl, congrArg (fun x => x.1) he, congrArg (fun x => x.2.1) he, congrArg (fun x => x.2.2.1) he⟩
  rcases h with ⟨h1, h2⟩ | ⟨c, oc, oc', h1, h2, h3, h4, h5, h6, h7, h8, h9, h10, h11⟩
  · exact key (h2 b)
  · by_cases hbc : b = c
    · subst hbc
      rw [h1] at hb
      injection hb with hb
      subst hb
      exact ⟨oc', h2, h6, h7, h8⟩
    · exact key (h11 b hbc)
/-- What a step leaves. -/
structure StepOk (sum : List Int → Int) (at0 : Nat → Int) (n cnt : Nat) (M : Nat → Prop) (N : Nat) (a : Nat) (o : OpS) (σ : PwS) (L : Nat → Int) (σ' : PwS) (b : Bool) (xs' : List Int) (L' : Nat → Int) : Prop where
  eq : σ.step sum at0 a = (σ', b)
  inv : Inv sum at0 n cnt M N σ' xs' L'
  eff : Eff a σ σ' L L'
  self : ∃ o', σ'.ops a = some o' ∧ o'.ended = b ∧ o'.th = o.th ∧ o'.k = o.k ∧ o'.es = o.es ∧ (b = true → o.ended = false → o'.err = 0) ∧ (b = false → o'.err = o.err) ∧ (o.ended = true → o' = o)
  other : ∀ d, d ≠ a → (σ'.ops d).map OpS.fl = (σ.ops d).map OpS.fl
  busy : σ'.busy = if b && !o.ended then σ.busy.set o.k false else σ.busy
theorem Inv.step (h : Inv sum at0 n cnt M N σ xs L) (hR : RegOk n cnt M at0) (hN : N < 1000000) (ha : σ.ops a = some o) : ∃ σ' b xs' L', StepOk sum at0 n cnt M (N + 1) a o σ L σ' b xs' L' := by
  have herr : ∀ i, (σ.dev.thr i).err = 0 := h.on.err
  cases he : o.ended with
  | true =>
    refine ⟨σ, true, xs, L, ?_, h.mono (Nat.le_succ _), .inl ⟨rfl, fun _ => rfl⟩, ⟨o, ha, he, rfl, rfl, rfl, fun _ hh => (by rw [he] at hh; cases hh), fun hh => (by cases hh), fun _ => rfl⟩, fun _ _ => rfl, by rw [he]; rfl⟩
    unfold PwS.step; rw [ha]; simp [he]
  | false =>
    have hfend : ∀ {τ : PwS} {o1 : OpS} {ys : List Int} {L1 : Nat → Int}, Inv sum at0 n cnt M (N + 1) τ ys L1 → τ.ops a = some o1 → o1.done = true → o1.th = o.th → o1.k = o.k → o1.es = o.es → Eff a σ τ L L1 → SameFl σ τ →
        StepOk sum at0 n cnt M (N + 1) a o σ L (τ.fend a o1 0) true ys L1 ∨ σ.step sum at0 a ≠ (τ.fend a o1 0, true) := by
      intro τ o1 ys L1 hI h1 hd e1 e2 e3 hE hF
      by_cases hst : σ.step sum at0 a = (τ.fend a o1 0, true)
      · left
        have ef : τ.fend a o1 0 = { τ.setOp a { o1 with ended := true, err := 0 } with busy := τ.busy.set o1.k false } := by
          unfold PwS.fend; rw [if_neg (by simp [hd])]
        refine ⟨hst, by rw [ef]; exact hI.fend h1 hd _, ?_, ?_, fun d hd' => ?_, ?_⟩
        · rw [ef]
          exact hE.keys (fun b => key_setOp τ h1 (by show (o1.es, o1.th, o1.k, OpS.res _) = (o1.es, o1.th, o1.k, o1.res); simp [OpS.res, hd]) b)
        · rw [ef]
          exact ⟨{ o1 with ended := true, err := 0 }, if_pos rfl, rfl, e1, e2, e3, fun _ _ => rfl, fun hh => (by cases hh), fun hh => (by rw [he] at hh; cases hh)⟩
        · rw [ef]
          show (if d = a then _ else τ.ops d).map OpS.fl = _
          rw [if_neg hd']; exact hF.2 d
        · rw [ef]
          show τ.busy.set o1.k false = _
          rw [he, hF.1, e2]; rfl
      · exact .inr hst
    cases hd : o.done with
    | true =>
      have hst : σ.step sum at0 a = (σ.fend a o 0, true) := by
        unfold PwS.step; rw [ha]; simp [he, hd, herr]
      rcases hfend (h.mono (Nat.le_succ _)) ha hd rfl rfl rfl (.inl ⟨rfl, fun _ => rfl⟩) (SameFl.refl σ) with h1 | h1
      · exact ⟨_, _, _, _, h1⟩
      · exact absurd hst h1
    | false =>
      obtain ⟨σ0, c, hσ0, hc0, hI0, hops, hbus, hcc, hdev⟩ : ∃ σ0 c, σ0 = (if σ.cur.isSome then σ else { σ with cur := some a }) ∧ σ0.cur = some c ∧ Inv sum at0 n cnt M N σ0 xs L ∧ σ0.ops = σ.ops ∧ σ0.busy = σ.busy ∧ (σ.cur = some c ∨ c = a) ∧ σ0.dev = σ.dev := by
        cases hcur : σ.cur with
        | none => exact ⟨{ σ with cur := some a }, a, rfl, rfl, h.claim hcur ha hd, rfl, rfl, .inr rfl, rfl⟩
        | some c => exact ⟨σ, c, rfl, hcur, h, rfl, rfl, .inl rfl, rfl⟩
      obtain ⟨oc, g1, g2, g3, g4⟩ := hI0.run c hc0
      have ha0 : σ0.ops a = some o := by rw [hops]; exact ha
      obtain ⟨ys, L1, hI1, hE1⟩ := hI0.adv hR hN ha0 hc0 g1
      have hF1 : SameFl σ (σ0.adv sum at0 a o c oc) := by
        have h1 := adv_fl (sum := sum) (at0 := at0) ha0 g1
        exact ⟨h1.1.trans hbus, fun b => (h1.2 b).trans (by rw [hops])⟩
      have hE : Eff a σ (σ0.adv sum at0 a o c oc) L L1 := by
        rcases hE1 with ⟨q1, q2⟩ | ⟨c', oc1, oc', q1, q2, q3, q4, q5, q6, q7, q8, q9, q10, q11⟩
        · exact .inl ⟨q1, fun b => (q2 b).trans (by rw [hops])⟩
        · refine .inr ⟨c', oc1, oc', by rw [← hops]; exact q1, q2, q3, q4, q5, q6, q7, q8, ?_, q10, fun b hb => (q11 b hb).trans (by rw [hops])⟩
          rcases q9 with q9 | q9
          · rw [hc0] at q9
            injection q9 with q9
            rw [← q9]; exact hcc
          · exact .inr q9
      obtain ⟨o1, k1, k2, k3, k4⟩ := hE.sm ha
      obtain ⟨τ, hτ⟩ : ∃ τ, σ0.adv sum at0 a o c oc = τ := ⟨_, rfl⟩
      rw [hτ] at hI1 hE hF1 k1
      have hst : σ.step sum at0 a = if o1.done then (τ.fend a o1 0, true) else (τ, false) := by
        unfold PwS.step
        rw [ha]
        simp only [he, Bool.false_eq_true, if_false, hd, herr, ne_eq, not_true_eq_false]
        rw [← hσ0, hc0, Option.getD_some, g1]
        simp only [hτ, k1]
        rw [if_neg (by rw [hI1.on.err]; simp)]
      cases hd1 : o1.done with
      | true =>
        rw [hd1] at hst
        rcases hfend hI1 k1 hd1 k3 k4 k2 hE hF1 with h1 | h1
        · exact ⟨_, _, _, _, h1⟩
        · exact absurd hst h1
      | false =>
        rw [hd1] at hst
        have hfl : o1.fl = o.fl := by
          have := hF1.2 a
          rw [k1, ha] at this
          injection this
        refine ⟨τ, false, ys, L1, hst, hI1, hE, ⟨o1, k1, (congrArg (fun x => x.1) hfl).trans he, k3, k4, k2, fun hh => (by cases hh), fun _ => congrArg (fun x => x.2.1) hfl, fun hh => (by rw [he] at hh; cases hh)⟩, fun d _ => hF1.2 d, by rw [hF1.1]; rfl⟩
end
end Go.Proofs.YtjaohgnloddgfaaGreatDoor

namespace Go.Proofs.YtjaohgnloddgfaaGreatDoor
open Go.RowKit
set_option linter.unusedVariables false
set_option linter.unusedSimpArgs false

def OpS.rem (o : OpS) (c : Nat) (oc : OpS) : Nat := if oc.stage = 0 then 160 + (6 - oc.loaded) else 40 * (4 - oc.stage) + (38 - o.jat c oc.stage)
def gOp : Option (Nat × OpS) → Nat → OpS → Nat
  | none, _, o => (if o.ended then 0 else 1) + (if o.done then 0 else 601)
  | some (c, oc), b, o => (if o.ended then 0 else 1) + (if o.done then 0 else (if c = b then 1 else 601)) + o.rem c oc
def curO (σ : PwS) : Option (Nat × OpS) := σ.cur.bind fun c => (σ.ops c).map fun oc => (c, oc)
def gAt (σ : PwS) (b : Nat) : Nat := match σ.ops b with
  | none => 0
  | some o => gOp (curO σ) b o
def gSum (σ : PwS) (al : List Nat) : Nat := (al.map (gAt σ)).sum
theorem sum_le_add {f g : Nat → Nat} {m : Nat} : ∀ (al : List Nat), (∀ b ∈ al, f b ≤ g b + m) → (al.map f).sum ≤ (al.map g).sum + m * al.length
  | [], _ => by simp
  | x :: al, h => by
    have h1 := h x (by simp)
    have h2 := sum_le_add al (fun b hb => h b (by simp [hb]))
    simp only [List.map_cons, List.sum_cons, List.length_cons]
    rw [Nat.mul_succ]; omega
theorem sum_zero : ∀ (al : List Nat), (al.map fun _ => (0 : Nat)).sum = 0
  | [] => rfl
  | x :: al => by simpa using sum_zero al
theorem sum_step {f g : Nat → Nat} {a m K : Nat} : ∀ (al : List Nat), al.Nodup → a ∈ al → (∀ b ∈ al, b ≠ a → f b ≤ g b + m) → f a + K ≤ g a → (al.map f).sum + K ≤ (al.map g).sum + m * (al.length - 1)
  | [], _, h, _, _ => by simp at h
  | x :: al, hn, ha, h, hK => by
    rw [List.nodup_cons] at hn
    simp only [List.map_cons, List.sum_cons, List.length_cons, Nat.add_sub_cancel]
    by_cases hx : x = a
    · subst hx
      have h2 := sum_le_add (f := f) (g := g) (m := m) al (fun b hb => h b (by simp [hb]) (fun he => hn.1 (by rw [← he]; exact hb)))
      omega
    · have ha' : a ∈ al := by
        rcases List.mem_cons.1 ha with h1 | h1
        · exact absurd h1.symm hx
        · exact h1
      have h1 := h x (by simp) hx
      have h2 := sum_step al hn.2 ha' (fun b hb => h b (by simp [hb])) hK
      have hl : 0 < al.length := List.length_pos_of_mem ha'
      obtain ⟨l, hl'⟩ : ∃ l, al.length = l + 1 := ⟨al.length - 1, by omega⟩
      rw [hl'] at h2 ⊢
      rw [Nat.mul_succ]
      simp only [Nat.add_sub_cancel] at h2
      omega
section
variable {sum : List Int → Int} {at0 : Nat → Int} {n cnt N N' : Nat} {M : Nat → Prop} {σ σ' σ2 : PwS} {xs xs' : List Int} {L L' : Nat → Int} {a b c : Nat} {o o' oc oc' : OpS} {al : List Nat}
theorem curO_of (hc : σ.cur = some c) (hoc : σ.ops c = some oc) : curO σ = some (c, oc) := by unfold curO; rw [hc]; show (σ.ops c).map _ = _; rw [hoc]; rfl
theorem curO_none (hc : σ.cur = none) : curO σ = none := by unfold curO; rw [hc]; rfl
theorem gOp_lt (he : o'.ended = o.ended) (hd : o'.done = o.done) (hr : o'.rem c oc' < o.rem c oc) : gOp (some (c, oc')) b o' < gOp (some (c, oc)) b o := by
  simp only [gOp, he, hd]; omega
theorem gOp_fin (he : o'.ended = o.ended) (hd : o'.done = true ∨ (o'.done = o.done ∧ c ≠ b)) (hr : 0 < o.rem c oc) : gOp none b o' < gOp (some (c, oc)) b o := by
  simp only [gOp, he]
  rcases hd with hd | ⟨hd, hb⟩
  · simp only [hd, if_true]; omega
  · simp only [hd, if_neg hb]; omega
def DecA (a : Nat) (σ σ' : PwS) : Prop := ∀ b o', σ'.ops b = some o' → ∃ o, σ.ops b = some o ∧ gOp (curO σ') b o' ≤ gOp (curO σ) b o ∧ (b = a → gOp (curO σ') b o' < gOp (curO σ) b o)
theorem DecA.tot (h : DecA a σ σ') (hn : al.Nodup) (ha : a ∈ al) (h1 : σ'.ops a = some o) : gSum σ' al + 1 ≤ gSum σ al := by
  have := sum_step (f := gAt σ') (g := gAt σ) (m := 0) (K := 1) al hn ha (fun b hb _ => ?_) ?_
  · simpa [gSum] using this
  · unfold gAt
    cases hb' : σ'.ops b with
    | none => simp
    | some o' =>
      obtain ⟨o, e1, e2, _⟩ := h b o' hb'
      rw [e1]; exact e2
  · unfold gAt
    obtain ⟨o2, e1, _, e3⟩ := h a o h1
    rw [h1, e1]; exact e3 rfl
theorem DecA.of_cur (hc' : σ'.cur = some c) (hoc' : σ'.ops c = some oc') (h : ∀ b o', σ'.ops b = some o' → ∃ o, σ.ops b = some o ∧ gOp (some (c, oc')) b o' ≤ gOp (curO σ) b o ∧ (b = a → gOp (some (c, oc')) b o' < gOp (curO σ) b o)) : DecA a σ σ' := by
  intro b o' hb
  rw [curO_of hc' hoc']
  exact h b o' hb
theorem rem_pos (h : oc.stage ≠ 0 → o.jat c oc.stage ≤ 37) : 0 < o.rem c oc := by
  unfold OpS.rem
  split
  · omega
  · rename_i hs; have := h hs; omega
theorem Inv.jat_le (h : Inv sum at0 n cnt M N σ xs L) (hR : RegOk n cnt M at0) (hc : σ.cur = some c) (hoc : σ.ops c = some oc) (ha : σ.ops a = some o) (hs : oc.stage ≠ 0) : o.jat c oc.stage < oc.prog.length ∧ oc.prog.length ≤ 37 := by
  obtain ⟨oc2, g1, g2, g3, g4⟩ := h.run c hc
  rw [hoc] at g1
  injection g1 with g1
  subst g1
  obtain ⟨h1, h4, hp⟩ := g4.info hs
  have hok := h.ok c oc hoc
  obtain ⟨ws, hw, _⟩ := progInfo (sum := sum) hR hok h1 h4
  have hl0 : 0 < oc.prog.length := by rw [hp, hw, length_storesP]; omega
  have h5 := (insOk (sum := sum) (xs := xs) hR hok h.on.length h1 h4 hp (j := 0) hl0).2.2.2
  exact ⟨(h.jat ha hc hoc h1 hl0).1, h5⟩
theorem load_dec (h : Inv sum at0 n cnt M N σ xs L) (hc : σ.cur = some c) (hoc : σ.ops c = some oc) (hs : oc.stage = 0) (i : Nat) : DecA a σ (σ.load sum at0 c oc i) := by
  obtain ⟨oc2, g1, g2, g3, g4⟩ := h.run c hc
  rw [hoc] at g1
  injection g1 with g1
  subst g1
  have hok := h.ok c oc hoc
  rcases g4 with ⟨_, hl, hse, hM⟩ | ⟨e, _⟩ | ⟨e, _⟩ | ⟨e, _⟩
  rotate_left
  · omega
  · omega
  · omega
  obtain ⟨q, hq⟩ : ∃ q, oc.order.getD oc.loaded 0 = q := ⟨_, rfl⟩
  have hql : q < oc.es.length := by rw [← hq]; exact hok.order_get hl
  have hl6 : oc.loaded < 6 := by have := hok.order_len; have := hok.l6; omega
  obtain ⟨w1, w2, w3⟩ := hok.wd hql
  rw [load_eq h.on hq w3 w2 (hM _ w1)]
  have hcO := curO_of hc hoc
  have rem0 : ∀ ob : OpS, ob.rem c oc = 160 + (6 - oc.loaded) := fun ob => by unfold OpS.rem; rw [if_pos hs]
  split
  · split
    · unfold PwS.enter
      rw [if_pos (by omega)]
      refine DecA.of_cur (c := c) (oc' := { ({ oc with seen := oc.seen.set q (L (wdE oc.es q)), loaded := oc.loaded + 1 } : OpS) with stage := 1, prog := ({ oc with seen := oc.seen.set q (L (wdE oc.es q)), loaded := oc.loaded + 1 } : OpS).progOf sum at0 1 }) hc (if_pos rfl) fun b ob hb => ?_
      rw [hcO]
      have hb : (if b = c then _ else if b = c then _ else σ.ops b) = some ob := hb
      have key : ∀ (o1 : OpS), ob.ended = o1.ended → ob.done = o1.done → gOp (some (c, { ({ oc with seen := oc.seen.set q (L (wdE oc.es q)), loaded := oc.loaded + 1 } : OpS) with stage := 1, prog := ({ oc with seen := oc.seen.set q (L (wdE oc.es q)), loaded := oc.loaded + 1 } : OpS).progOf sum at0 1 })) b ob < gOp (some (c, oc)) b o1 := fun o1 e1 e2 => by
        refine gOp_lt e1 e2 ?_
        rw [rem0]
        unfold OpS.rem
        rw [if_neg (by show ¬ 1 = 0; omega)]
        show 40 * (4 - 1) + (38 - ob.jat c 1) < _
        omega
      by_cases hbc : b = c
      · rw [if_pos hbc] at hb
        injection hb with hb
        exact ⟨oc, by rw [hbc]; exact hoc, Nat.le_of_lt (key oc (by rw [← hb]) (by rw [← hb])), fun _ => key oc (by rw [← hb]) (by rw [← hb])⟩
      · rw [if_neg hbc, if_neg hbc] at hb
        exact ⟨ob, hb, Nat.le_of_lt (key ob rfl rfl), fun _ => key ob rfl rfl⟩
    · refine DecA.of_cur (c := c) (oc' := { oc with seen := oc.seen.set q (L (wdE oc.es q)), loaded := oc.loaded + 1 }) hc (if_pos rfl) fun b ob hb => ?_
      rw [hcO]
      have hb : (if b = c then _ else σ.ops b) = some ob := hb
      have key : ∀ (o1 : OpS), ob.ended = o1.ended → ob.done = o1.done → gOp (some (c, { oc with seen := oc.seen.set q (L (wdE oc.es q)), loaded := oc.loaded + 1 })) b ob < gOp (some (c, oc)) b o1 := fun o1 e1 e2 => by
        refine gOp_lt e1 e2 ?_
        rw [rem0]
        unfold OpS.rem
        rw [if_pos (show OpS.stage _ = 0 from hs)]
        show 160 + (6 - (oc.loaded + 1)) < _
        omega
      by_cases hbc : b = c
      · rw [if_pos hbc] at hb
        injection hb with hb
        exact ⟨oc, by rw [hbc]; exact hoc, Nat.le_of_lt (key oc (by rw [← hb]) (by rw [← hb])), fun _ => key oc (by rw [← hb]) (by rw [← hb])⟩
      · rw [if_neg hbc] at hb
        exact ⟨ob, hb, Nat.le_of_lt (key ob rfl rfl), fun _ => key ob rfl rfl⟩
  · unfold PwS.fin
    intro b ob hb
    rw [hcO, curO_none rfl]
    have hb : (if b = c then _ else σ.ops b) = some ob := hb
    by_cases hbc : b = c
    · rw [if_pos hbc] at hb
      injection hb with hb
      have := gOp_fin (b := b) (o' := ob) (o := oc) (c := c) (oc := oc) (by rw [← hb]) (.inl (by rw [← hb])) (by rw [rem0]; omega)
      exact ⟨oc, by rw [hbc]; exact hoc, Nat.le_of_lt this, fun _ => this⟩
    · rw [if_neg hbc] at hb
      have := gOp_fin (b := b) (o' := ob) (o := ob) (c := c) (oc := oc) rfl (.inr ⟨rfl, fun he => hbc he.symm⟩) (by rw [rem0]; omega)
      exact ⟨ob, hb, Nat.le_of_lt this, fun _ => this⟩
theorem jat_pos (o : OpS) (c s j : Nat) : (o.pos c s j).jat c s = j := by unfold OpS.jat; rw [if_pos ⟨rfl, rfl⟩]; rfl
theorem adv1_dec (h : Inv sum at0 n cnt M N σ xs L) (hR : RegOk n cnt M at0) (hN : N < 1000000) (ha : σ.ops a = some o) (hc : σ.cur = some c) (hoc : σ.ops c = some oc) (hs : oc.stage ≠ 0) : DecA a σ (σ.adv sum at0 a o c oc) := by
  obtain ⟨oc2, g1, g2, g3, g4⟩ := h.run c hc
  rw [hoc] at g1
  injection g1 with g1
  subst g1
  obtain ⟨h1, h4, hp⟩ := g4.info hs
  have hok := h.ok c oc hoc
  have hcO := curO_of hc hoc
  have hle : ∀ b ob, σ.ops b = some ob → ob.jat c oc.stage ≤ 36 := fun b ob hb => by have := h.jat_le hR hc hoc hb hs; omega
  obtain ⟨hj, hj37⟩ := h.jat_le hR hc hoc ha hs
  obtain ⟨hv, _, _, _⟩ := insOk (sum := sum) (xs := xs) hR hok h.on.length h1 h4 hp (j := o.jat c oc.stage) hj
  have hon := h.on.ins o.th (h.ok a o ha).th hN hv
  rw [adv_eq σ a o c oc hs (hon.err _)]
  obtain ⟨j, hje⟩ : ∃ j, o.jat c oc.stage = j := ⟨_, rfl⟩
  have hoj := hje
  rw [hje] at hj ⊢
  have remS : ∀ ob : OpS, ob.rem c oc = 40 * (4 - oc.stage) + (38 - ob.jat c oc.stage) := fun ob => by unfold OpS.rem; rw [if_neg hs]
  split
  · unfold PwS.enter
    split
    · rename_i _ hs4
      obtain ⟨oc', hoc'⟩ : ∃ oc' : OpS, { (if c = a then o.pos c oc.stage (j + 1) else oc) with stage := oc.stage + 1, prog := (if c = a then o.pos c oc.stage (j + 1) else oc).progOf sum at0 (oc.stage + 1) } = oc' := ⟨_, rfl⟩
      have e1 : oc'.stage = oc.stage + 1 := by rw [← hoc']
      have e2 : oc'.ended = oc.ended ∧ oc'.done = oc.done := by
        rw [← hoc']
        by_cases hca : c = a
        · rw [if_pos hca]
          rw [hca, ha] at hoc
          injection hoc with hoc
          rw [← hoc]; exact ⟨rfl, rfl⟩
        · rw [if_neg hca]; exact ⟨rfl, rfl⟩
      rw [hoc']
      refine DecA.of_cur (c := c) (oc' := oc') hc (if_pos rfl) fun b ob hb => ?_
      rw [hcO]
      have hb : (if b = c then some oc' else if b = a then some (o.pos c oc.stage (j + 1)) else σ.ops b) = some ob := hb
      have key : ∀ (o1 : OpS), o1.jat c oc.stage ≤ 36 → ob.ended = o1.ended → ob.done = o1.done → gOp (some (c, oc')) b ob < gOp (some (c, oc)) b o1 := fun o1 e0 e1' e2' => by
        refine gOp_lt e1' e2' ?_
        rw [remS]
        unfold OpS.rem
        rw [e1, if_neg (by omega)]
        omega
      by_cases hbc : b = c
      · rw [if_pos hbc] at hb
        injection hb with hb
        have := key oc (hle c oc hoc) (by rw [← hb]; exact e2.1) (by rw [← hb]; exact e2.2)
        exact ⟨oc, by rw [hbc]; exact hoc, Nat.le_of_lt this, fun _ => this⟩
      · rw [if_neg hbc] at hb
        by_cases hba : b = a
        · rw [if_pos hba] at hb
          injection hb with hb
          have := key o (hle a o ha) (by rw [← hb]; rfl) (by rw [← hb]; rfl)
          exact ⟨o, by rw [hba]; exact ha, Nat.le_of_lt this, fun _ => this⟩
        · rw [if_neg hba] at hb
          have := key ob (hle b ob hb) rfl rfl
          exact ⟨ob, hb, Nat.le_of_lt this, fun _ => this⟩
    · unfold PwS.fin
      obtain ⟨oc', hoc'⟩ : ∃ oc' : OpS, { ({ (if c = a then o.pos c oc.stage (j + 1) else oc) with stage := oc.stage + 1 } : OpS) with done := true, changed := true } = oc' := ⟨_, rfl⟩
      have e2 : oc'.ended = oc.ended ∧ oc'.done = true := by
        rw [← hoc']
        by_cases hca : c = a
        · rw [if_pos hca]
          rw [hca, ha] at hoc
          injection hoc with hoc
          rw [← hoc]; exact ⟨rfl, rfl⟩
        · rw [if_neg hca]; exact ⟨rfl, rfl⟩
      rw [hoc']
      intro b ob hb
      rw [hcO, curO_none rfl]
      have hb : (if b = c then some oc' else if b = a then some (o.pos c oc.stage (j + 1)) else σ.ops b) = some ob := hb
      by_cases hbc : b = c
      · rw [if_pos hbc] at hb
        injection hb with hb
        have := gOp_fin (b := b) (o' := ob) (o := oc) (c := c) (oc := oc) (by rw [← hb]; exact e2.1) (.inl (by rw [← hb]; exact e2.2)) (rem_pos (fun _ => by have := hle c oc hoc; omega))
        exact ⟨oc, by rw [hbc]; exact hoc, Nat.le_of_lt this, fun _ => this⟩
      · rw [if_neg hbc] at hb
        by_cases hba : b = a
        · rw [if_pos hba] at hb
          injection hb with hb
          have := gOp_fin (b := b) (o' := ob) (o := o) (c := c) (oc := oc) (by rw [← hb]; rfl) (.inr ⟨by rw [← hb]; rfl, fun he => hbc he.symm⟩) (rem_pos (fun _ => by have := hle a o ha; omega))
          exact ⟨o, by rw [hba]; exact ha, Nat.le_of_lt this, fun _ => this⟩
        · rw [if_neg hba] at hb
          have := gOp_fin (b := b) (o' := ob) (o := ob) (c := c) (oc := oc) rfl (.inr ⟨rfl, fun he => hbc he.symm⟩) (rem_pos (fun _ => by have := hle b ob hb; omega))
          exact ⟨ob, hb, Nat.le_of_lt this, fun _ => this⟩
  · obtain ⟨oc', hoc', e1⟩ : ∃ oc', (if c = a then some (o.pos c oc.stage (j + 1)) else σ.ops c) = some oc' ∧ oc'.stage = oc.stage := by
      by_cases hca : c = a
      · rw [if_pos hca]
        rw [hca, ha] at hoc
        injection hoc with hoc
        exact ⟨_, rfl, by rw [← hoc]; rfl⟩
      · rw [if_neg hca]; exact ⟨oc, hoc, rfl⟩
    refine DecA.of_cur (c := c) (oc' := oc') hc hoc' fun b ob hb => ?_
    rw [hcO]
    have hb : (if b = a then some (o.pos c oc.stage (j + 1)) else σ.ops b) = some ob := hb
    have remS' : ∀ ob : OpS, ob.rem c oc' = 40 * (4 - oc.stage) + (38 - ob.jat c oc.stage) := fun ob => by unfold OpS.rem; rw [e1, if_neg hs]
    by_cases hba : b = a
    · rw [if_pos hba] at hb
      injection hb with hb
      have : gOp (some (c, oc')) b ob < gOp (some (c, oc)) b o := gOp_lt (by rw [← hb]; rfl) (by rw [← hb]; rfl) (by rw [remS, remS', ← hb, jat_pos, hoj]; omega)
      exact ⟨o, by rw [hba]; exact ha, Nat.le_of_lt this, fun _ => this⟩
    · rw [if_neg hba] at hb
      refine ⟨ob, hb, ?_, fun he => absurd he hba⟩
      simp only [gOp, remS, remS']
      exact Nat.le_refl _
theorem adv_dec (h : Inv sum at0 n cnt M N σ xs L) (hR : RegOk n cnt M at0) (hN : N < 1000000) (ha : σ.ops a = some o) (hc : σ.cur = some c) (hoc : σ.ops c = some oc) : DecA a σ (σ.adv sum at0 a o c oc) := by
  by_cases hs : oc.stage = 0
  · have e : σ.adv sum at0 a o c oc = σ.load sum at0 c oc o.th := by unfold PwS.adv; rw [if_pos hs]
    rw [e]; exact load_dec h hc hoc hs o.th
  · exact adv1_dec h hR hN ha hc hoc hs
theorem claim_dec (h : Inv sum at0 n cnt M N σ xs L) (hc : σ.cur = none) (ha : σ.ops a = some o) (hd : o.done = false) (hn : al.Nodup) (hm : a ∈ al) (hl : al.length ≤ 3) : gSum { σ with cur := some a } al + 1 ≤ gSum σ al := by
  obtain ⟨f1, f2, f3⟩ := h.fresh a o ha (by rw [hc]; simp) hd
  have hcO : curO { σ with cur := some a } = some (a, o) := curO_of rfl ha
  have rem0 : ∀ ob : OpS, ob.rem a o = 166 := fun ob => by unfold OpS.rem; rw [if_pos f1, f2]
  have := sum_step (f := gAt { σ with cur := some a }) (g := gAt σ) (m := 166) (K := 434) al hn hm (fun b hb hba => ?_) ?_
  · have h3 : 166 * (al.length - 1) ≤ 332 := by omega
    unfold gSum; omega
  · unfold gAt
    show (match σ.ops b with | none => 0 | some o => _) ≤ _
    cases hob : σ.ops b with
    | none => simp
    | some ob =>
      simp only
      rw [hcO, curO_none hc]
      simp only [gOp, rem0, if_neg (show ¬ a = b from fun he => hba he.symm)]
      omega
  · unfold gAt
    show (match σ.ops a with | none => 0 | some o => _) + _ ≤ _
    rw [ha]
    simp only
    rw [hcO, curO_none hc]
    simp only [gOp, rem0, if_true, hd, Bool.false_eq_true, if_false]
    omega
theorem fend_dec (h : Inv sum at0 n cnt M N σ xs L) (ha : σ.ops a = some o) (hd : o.done = true) (he : o.ended = false) (e : Int) : DecA a σ (σ.fend a o e) := by
  have ef : σ.fend a o e = { σ.setOp a { o with ended := true, err := e } with busy := σ.busy.set o.k false } := by
    unfold PwS.fend; rw [if_neg (by simp [hd])]
  rw [ef]
  have hca : ∀ c, σ.cur = some c → c ≠ a := fun c hc hca => by
    obtain ⟨oc, g1, g2, _⟩ := h.run c hc
    rw [hca, ha] at g1; injection g1 with g1; rw [g1] at hd; rw [hd] at g2; cases g2
  have hcO : curO ({ σ.setOp a { o with ended := true, err := e } with busy := σ.busy.set o.k false } : PwS) = curO σ := by
    unfold curO
    show σ.cur.bind _ = _
    cases hc : σ.cur with
    | none => rfl
    | some c =>
      show ((if c = a then _ else σ.ops c) : Option OpS).map _ = (σ.ops c).map _
      rw [if_neg (hca c hc)]
  intro b ob hb
  rw [hcO]
  have hb : (if b = a then some { o with ended := true, err := e } else σ.ops b) = some ob := hb
  by_cases hba : b = a
  · rw [if_pos hba] at hb
    injection hb with hb
    have : gOp (curO σ) b ob < gOp (curO σ) b o := by
      rw [← hb]
      cases curO σ with
      | none => simp [gOp, he]
      | some p =>
        obtain ⟨c, oc⟩ := p
        have hr : ({ o with ended := true, err := e } : OpS).rem c oc = o.rem c oc := rfl
        simp [gOp, hr, he]
    exact ⟨o, by rw [hba]; exact ha, Nat.le_of_lt this, fun _ => this⟩
  · rw [if_neg hba] at hb
    exact ⟨ob, hb, Nat.le_refl _, fun he' => absurd he' hba⟩
/-- A step of an operation that has not ended lowers the sum. -/
theorem Inv.step_dec (h : Inv sum at0 n cnt M N σ xs L) (hR : RegOk n cnt M at0) (hN : N < 1000000) (ha : σ.ops a = some o) (he : o.ended = false) (hn : al.Nodup) (hm : a ∈ al) (hl : al.length ≤ 3) : gSum (σ.step sum at0 a).1 al + 1 ≤ gSum σ al := by
  have herr : ∀ i, (σ.dev.thr i).err = 0 := h.on.err
  cases hd : o.done with
  | true =>
    have hst : σ.step sum at0 a = (σ.fend a o 0, true) := by
      unfold PwS.step; rw [ha]; simp [he, hd, herr]
    rw [hst]
    refine (fend_dec h ha hd he 0).tot hn hm (o := { o with ended := true, err := 0 }) ?_
    unfold PwS.fend
    rw [if_neg (by simp [hd])]
    exact if_pos rfl
  | false =>
    obtain ⟨σ0, c, hσ0, hc0, hI0, hops, hg⟩ : ∃ σ0 c, σ0 = (if σ.cur.isSome then σ else { σ with cur := some a }) ∧ σ0.cur = some c ∧ Inv sum at0 n cnt M N σ0 xs L ∧ σ0.ops = σ.ops ∧ gSum σ0 al ≤ gSum σ al := by
      cases hcur : σ.cur with
      | none => exact ⟨{ σ with cur := some a }, a, rfl, rfl, h.claim hcur ha hd, rfl, by have := claim_dec h hcur ha hd hn hm hl; omega⟩
      | some c => exact ⟨σ, c, rfl, hcur, h, rfl, Nat.le_refl _⟩
    obtain ⟨oc, g1, g2, g3, g4⟩ := hI0.run c hc0
    have ha0 : σ0.ops a = some o := by rw [hops]; exact ha
    obtain ⟨ys, L1, hI1, hE1⟩ := hI0.adv hR hN ha0 hc0 g1
    have hdec := adv_dec hI0 hR hN ha0 hc0 g1
    obtain ⟨o1, k1, k2, k3, k4⟩ := hE1.sm ha0
    have hF1 := (adv_fl (sum := sum) (at0 := at0) ha0 g1).2 a
    have hs1 := hdec.tot hn hm k1
    obtain ⟨τ, hτ⟩ : ∃ τ, σ0.adv sum at0 a o c oc = τ := ⟨_, rfl⟩
    rw [hτ] at hI1 k1 hs1 hF1
    have he1 : o1.ended = false := by
      rw [k1, ha0, Option.map_some, Option.map_some] at hF1
      injection hF1 with hF1
      exact (congrArg (fun x => x.1) hF1).trans he
    have hst : σ.step sum at0 a = if o1.done then (τ.fend a o1 0, true) else (τ, false) := by
      unfold PwS.step
      rw [ha]
      simp only [he, Bool.false_eq_true, if_false, hd, herr, ne_eq, not_true_eq_false]
      rw [← hσ0, hc0, Option.getD_some, g1]
      simp only [hτ, k1]
      rw [if_neg (by rw [hI1.on.err]; simp)]
    rw [hst]
    cases hd1 : o1.done with
    | false => simp only [Bool.false_eq_true, if_false]; omega
    | true =>
      simp only [if_true]
      have h2 := (fend_dec hI1 k1 hd1 he1 0).tot hn hm (o := { o1 with ended := true, err := 0 }) (by
        unfold PwS.fend
        rw [if_neg (by simp [hd1])]
        exact if_pos rfl)
      omega
theorem gSum_le (h : Inv sum at0 n cnt M N σ xs L) (hl : al.length ≤ 3) : gSum σ al ≤ 3 * 768 := by
  have h0 : ∀ b ∈ al, gAt σ b ≤ (fun _ => 0) b + 768 := fun b _ => by
    unfold gAt
    cases hob : σ.ops b with
    | none => simp
    | some ob =>
      simp only
      cases curO σ with
      | none => simp only [gOp]; split <;> split <;> omega
      | some p =>
        obtain ⟨c, oc⟩ := p
        have hr : ob.rem c oc ≤ 166 := by
          unfold OpS.rem
          split
          · omega
          · omega
        simp only [gOp]
        split <;> split <;> (try split) <;> omega
  have := sum_le_add (f := gAt σ) (g := fun _ => 0) (m := 768) al h0
  rw [sum_zero] at this
  unfold gSum
  omega
end
end Go.Proofs.YtjaohgnloddgfaaGreatDoor

namespace Go.Proofs.YtjaohgnloddgfaaGreatDoor
open Go.RowKit
set_option linter.unusedVariables false
set_option linter.unusedSimpArgs false

/-- A read in progress. -/
structure RdS where
  th : Nat
  off : Int
  place : Nat
  raw : Int
  ended : Bool
  err : Int
/-- What a word was before the current operation, if that is storing its words now. -/
def OpS.bef (o : OpS) (off : Int) : Option Int :=
  if o.stage = 3 then ((List.range o.es.length).find? fun q => (o.es.getD q E0).off == off).map fun q => gt0 o.seen q else none
def PwS.before (σ : PwS) (off : Int) : Option Int := (σ.cur.bind σ.ops).bind fun o => o.bef off
def RdS.fail (r : RdS) (e : Int) : RdS := { r with ended := true, err := e, raw := 0 }
/-- What a read does behind its instruction: does its thread have an error? -/
def RdS.chk (r : RdS) (D : DevS) : RdS := if (D.thr r.th).err ≠ 0 then r.fail (D.thr r.th).err else r
/-- A step of a read. -/
def PwS.rstep (σ : PwS) (r : RdS) : PwS × RdS :=
  if r.ended then (σ, r)
  else if (σ.dev.thr r.th).err ≠ 0 then (σ, r.fail (σ.dev.thr r.th).err)
  else if r.place = 0 then
    let D := σ.dev.on r.th (σ.dev.wordB r.off)
    ({ σ with dev := D }, match ({ σ with dev := D } : PwS).before r.off with
      | some x => ({ r with raw := x, ended := true, place := 1 } : RdS).chk D
      | none => ({ r with raw := σ.dev.load r.off, place := 1 } : RdS).chk D)
  else if r.place = 1 then
    let D := σ.dev.flush r.th r.off
    ({ σ with dev := D }, ({ r with place := 2 } : RdS).chk D)
  else
    let D := σ.dev.fence r.th
    ({ σ with dev := D }, ({ r with place := 3, ended := true } : RdS).chk D)
section
variable {sum : List Int → Int} {at0 : Nat → Int} {n cnt N N' : Nat} {M : Nat → Prop} {σ σ' σ2 : PwS} {xs xs' : List Int} {L L' : Nat → Int} {a c : Nat} {o oc oc' : OpS} {D D' : DevS} {r : RdS}
/-- The device's words stay as they are. -/
theorem Inv.same (h : Inv sum at0 n cnt M N σ xs L) (hon : On D n xs N') : Inv sum at0 n cnt M N' { σ with dev := D } xs L :=
  ⟨hon, h.hL, h.ok, h.idle, h.run, h.fresh, h.pos, h.inn, h.fin⟩
/-- What a read finds: the word as the operations that have taken effect leave it. -/
theorem Inv.look (h : Inv sum at0 n cnt M N σ xs L) {k : Nat} (hk : M k) : (∀ x, σ.before (8 * (k : Int)) = some x → x = L k) ∧ (σ.before (8 * (k : Int)) = none → xs[k]? = some (L k)) := by
  cases hc : σ.cur with
  | none =>
    refine ⟨fun x hx => ?_, fun _ => h.idle hc k hk⟩
    simp [PwS.before, hc] at hx
  | some c =>
    obtain ⟨oc, g1, g2, g3, g4⟩ := h.run c hc
    have hok := h.ok c oc g1
    have e : σ.before (8 * (k : Int)) = oc.bef (8 * (k : Int)) := by simp [PwS.before, hc, g1]
    rw [e]
    have hne : oc.stage ≠ 3 → (∀ k, M k → xs[k]? = some (L k)) → (∀ x, oc.bef (8 * (k : Int)) = some x → x = L k) ∧ (oc.bef (8 * (k : Int)) = none → xs[k]? = some (L k)) := fun h3 hx => by
      refine ⟨fun x hx => ?_, fun _ => hx k hk⟩
      unfold OpS.bef at hx
      rw [if_neg h3] at hx
      cases hx
    rcases g4 with ⟨e1, _, _, hx⟩ | ⟨e1, _, _, hx⟩ | ⟨e1, hs, _, hx, _⟩ | ⟨e1, _, hx⟩
    · exact hne (by omega) hx
    · exact hne (by omega) hx
    · unfold OpS.bef
      rw [if_pos e1]
      refine ⟨fun x hf => ?_, fun hf => ?_⟩
      · rw [Option.map_eq_some_iff] at hf
        obtain ⟨q, hq, rfl⟩ := hf
        have h1 := List.find?_some hq
        have h2 : q < oc.es.length := by simpa using List.mem_of_find?_eq_some hq
        have h3 := (hok.wd h2).2.2
        have h4 : (oc.es.getD q E0).off = 8 * (k : Int) := by simpa using h1
        have h5 : wdE oc.es q = k := by omega
        rw [(hs q h2).1, h5]
      · rw [Option.map_eq_none_iff, List.find?_eq_none] at hf
        refine hx k hk (fun q hq he => ?_)
        have h3 := (hok.wd hq).2.2
        exact hf q (by simpa using hq) (by rw [h3, he]; simp)
    · exact hne (by omega) hx
/-- What a step of a read leaves. -/
structure RdOk (n cnt : Nat) (M : Nat → Prop) (N : Nat) (sum : List Int → Int) (at0 : Nat → Int) (σ : PwS) (L : Nat → Int) (k : Nat) (r : RdS) (xs' : List Int) : Prop where
  inv : Inv sum at0 n cnt M N (σ.rstep r).1 xs' L
  ops : (σ.rstep r).1.ops = σ.ops ∧ (σ.rstep r).1.cur = σ.cur ∧ (σ.rstep r).1.busy = σ.busy
  th : (σ.rstep r).2.th = r.th ∧ (σ.rstep r).2.off = r.off ∧ (σ.rstep r).2.err = 0
  raw : (σ.rstep r).2.raw = if r.place = 0 then L k else r.raw
  place : r.place + 1 = (σ.rstep r).2.place ∧ (σ.rstep r).2.place ≤ 3
  ended : (σ.rstep r).2.ended = true ∨ (σ.rstep r).2.place ≤ 2
theorem Inv.rstep (h : Inv sum at0 n cnt M N σ xs L) (hN : N < 1000000) {k : Nat} (hk : M k) (hkn : k < 8 * n) (hoff : r.off = 8 * (k : Int)) (hth : r.th < 8) (he : r.ended = false) (h0 : r.err = 0) (hp : r.place ≤ 2) : RdOk n cnt M (N + 1) sum at0 σ L k r xs := by
  have herr : ∀ i, (σ.dev.thr i).err = 0 := h.on.err
  have hst : σ.rstep r = if r.place = 0 then
      ({ σ with dev := σ.dev.on r.th (σ.dev.wordB r.off) }, match ({ σ with dev := σ.dev.on r.th (σ.dev.wordB r.off) } : PwS).before r.off with
      | some x => ({ r with raw := x, ended := true, place := 1 } : RdS).chk (σ.dev.on r.th (σ.dev.wordB r.off))
      | none => ({ r with raw := σ.dev.load r.off, place := 1 } : RdS).chk (σ.dev.on r.th (σ.dev.wordB r.off)))
      else if r.place = 1 then ({ σ with dev := σ.dev.flush r.th r.off }, ({ r with place := 2 } : RdS).chk (σ.dev.flush r.th r.off))
      else ({ σ with dev := σ.dev.fence r.th }, ({ r with place := 3, ended := true } : RdS).chk (σ.dev.fence r.th)) := by
    unfold PwS.rstep
    rw [if_neg (by rw [he]; simp), if_neg (by rw [herr]; simp)]
  have chk0 : ∀ (s : RdS) (D : DevS), (∀ i, (D.thr i).err = 0) → s.chk D = s := fun s D hD => by
    unfold RdS.chk; rw [if_neg (by rw [hD]; simp)]
  by_cases p0 : r.place = 0
  · rw [if_pos p0] at hst
    rw [hoff] at hst
    obtain ⟨hl1, hl2⟩ := h.look hk
    have hwd : σ.dev.wordB (8 * (k : Int)) = true := by unfold DevS.wordB; rw [h.on.nl]; simp; omega
    have hdev : σ.dev.on r.th (σ.dev.wordB (8 * (k : Int))) = σ.dev := by unfold DevS.on; rw [h.on.off, hwd]; simp
    rw [hdev] at hst
    have e0 : ({ σ with dev := σ.dev } : PwS) = σ := rfl
    rw [e0] at hst
    cases hb : σ.before (8 * (k : Int)) with
    | some x =>
      rw [hb] at hst
      dsimp only at hst
      rw [chk0 _ _ herr] at hst
      have hx := hl1 x hb
      refine ⟨by rw [hst]; exact h.mono (Nat.le_succ _), by rw [hst]; exact ⟨rfl, rfl, rfl⟩, by rw [hst]; exact ⟨rfl, by rw [hoff], h0⟩, by rw [hst, if_pos p0]; exact hx, by rw [hst]; exact ⟨by rw [p0], by show (1 : Nat) ≤ 3; omega⟩, by rw [hst]; exact .inl rfl⟩
    | none =>
      rw [hb] at hst
      dsimp only at hst
      rw [chk0 _ _ herr] at hst
      have hx := (h.on.load_at hkn (hl2 hb) r.th).2
      rw [hx] at hst
      refine ⟨by rw [hst]; exact h.mono (Nat.le_succ _), by rw [hst]; exact ⟨rfl, rfl, rfl⟩, by rw [hst]; exact ⟨rfl, by rw [hoff], h0⟩, by rw [hst, if_pos p0], by rw [hst]; exact ⟨by rw [p0], by show (1 : Nat) ≤ 3; omega⟩, by rw [hst]; exact .inr (by show (1 : Nat) ≤ 2; omega)⟩
  · rw [if_neg p0] at hst
    by_cases p1 : r.place = 1
    · rw [if_pos p1] at hst
      have hon := h.on.flush r.th k hkn hN
      rw [hoff] at hst
      rw [chk0 _ _ hon.err] at hst
      refine ⟨by rw [hst]; exact h.same hon, by rw [hst]; exact ⟨rfl, rfl, rfl⟩, by rw [hst]; exact ⟨rfl, hoff ▸ rfl, h0⟩, by rw [hst, if_neg p0], by rw [hst]; exact ⟨by rw [p1], by show (2 : Nat) ≤ 3; omega⟩, by rw [hst]; exact .inr (by show (2 : Nat) ≤ 2; omega)⟩
    · rw [if_neg p1] at hst
      have hon := h.on.fence r.th hth hN
      rw [chk0 _ _ hon.err] at hst
      have p2 : r.place = 2 := by omega
      refine ⟨by rw [hst]; exact h.same hon, by rw [hst]; exact ⟨rfl, rfl, rfl⟩, by rw [hst]; exact ⟨rfl, rfl, h0⟩, by rw [hst, if_neg p0], by rw [hst]; exact ⟨by rw [p2], by show (3 : Nat) ≤ 3; omega⟩, by rw [hst]; exact .inl rfl⟩
end
end Go.Proofs.YtjaohgnloddgfaaGreatDoor

namespace Go.Proofs.YtjaohgnloddgfaaGreatDoor
open Go.RowKit
set_option linter.unusedVariables false
set_option linter.unusedSimpArgs false

/-- A call: a read of word k, or an operation. -/
inductive Kd
  | rd (k : Nat)
  | op (es : List Ent)
/-- A call in progress: where its operation or read lies, and what is told of it. -/
structure MaS where
  kd : Kd
  blk : Nat
  rs : RdS
  bg : Nat
  en : Nat
  on : Bool
  done : Bool
  ended : Bool
  ok : Bool
  val : Int
def linS (L : Nat → Int) : Kd → (Nat → Int)
  | .rd _ => L
  | .op es => if satL L es then appL L es else L
/-- The words after some calls. -/
def lin (ks : List Kd) (L0 : Nat → Int) (ord : List Nat) : Nat → Int := ord.foldl (fun L i => linS L (ks.getD i (.rd 0))) L0
theorem lin_snoc (ks : List Kd) (L0 : Nat → Int) (ord : List Nat) (i : Nat) : lin ks L0 (ord ++ [i]) = linS (lin ks L0 ord) (ks.getD i (.rd 0)) := by simp [lin]
/-- What a call was told when its place in the order was reached. -/
structure Placed (ks : List Kd) (L0 : Nat → Int) (ord : List Nat) (i : Nat) (v : (Nat → Int) → Prop) : Prop where
  at_ : ∀ p, ord[p]? = some i → v (lin ks L0 (ord.take p))
theorem Placed.snoc_old {ks : List Kd} {L0 : Nat → Int} {ord : List Nat} {i j : Nat} {v : (Nat → Int) → Prop} (h : Placed ks L0 ord i v) (hij : i ≠ j) : Placed ks L0 (ord ++ [j]) i v := by
  refine ⟨fun p hp => ?_⟩
  have hl : p < (ord ++ [j]).length := (List.getElem?_eq_some_iff.1 hp).1
  by_cases hpl : p < ord.length
  · rw [List.getElem?_append_left hpl] at hp
    rw [List.take_append_of_le_length (by omega)]
    exact h.at_ p hp
  · have : p = ord.length := by simp at hl; omega
    subst this
    simp at hp
    exact absurd hp.symm hij
theorem Placed.snoc_new {ks : List Kd} {L0 : Nat → Int} {ord : List Nat} {i : Nat} {v : (Nat → Int) → Prop} (hi : i ∉ ord) (h : v (lin ks L0 ord)) : Placed ks L0 (ord ++ [i]) i v := by
  refine ⟨fun p hp => ?_⟩
  have hl : p < (ord ++ [i]).length := (List.getElem?_eq_some_iff.1 hp).1
  by_cases hpl : p < ord.length
  · rw [List.getElem?_append_left hpl] at hp
    exact absurd (List.mem_of_getElem? hp) hi
  · have : p = ord.length := by simp at hl; omega
    subst this
    simpa using h
/-- A call and its operation or read, of which those in ord have taken effect. -/
structure MaOk (n : Nat) (M : Nat → Prop) (ks : List Kd) (L0 : Nat → Int) (ord : List Nat) (σ : PwS) (i : Nat) (m : MaS) : Prop where
  on : i ∈ ord ∨ m.done = true → m.on = true
  dn : m.done = true → i ∈ ord ∧ m.ended = true
  op : ∀ es, m.kd = .op es → ∃ o, σ.ops m.blk = some o ∧ o.es = es ∧ (i ∈ ord ↔ o.res ≠ none) ∧ Placed ks L0 ord i (fun L => o.res = some (satL L es)) ∧ o.ended = m.done ∧ (m.done = true → m.ok = o.changed) ∧ (σ.cur = some m.blk → m.on = true)
  rd : ∀ k, m.kd = .rd k → M k ∧ k < 8 * n ∧ m.rs.off = 8 * (k : Int) ∧ m.rs.th < 8 ∧ m.rs.err = 0 ∧ (i ∈ ord ↔ m.rs.place ≠ 0) ∧ Placed ks L0 ord i (fun L => m.rs.raw = L k) ∧ m.rs.ended = m.done ∧ (m.done = false → m.rs.place ≤ 2) ∧ (m.done = true → m.val = m.rs.raw % 1099511627776)
/-- The calls, of which those in ord have taken effect; at is the number of the next step. -/
structure Ls (n : Nat) (M : Nat → Prop) (ks : List Kd) (L0 : Nat → Int) (σ : PwS) (ms : List MaS) (at_ : Nat) (L : Nat → Int) (ord : List Nat) : Prop where
  kds : ms.map (·.kd) = ks
  nd : ord.Nodup
  mem : ∀ i ∈ ord, i < ms.length
  hL : L = lin ks L0 ord
  ma : ∀ i m, ms[i]? = some m → MaOk n M ks L0 ord σ i m
  inj : ∀ (i j : Nat) (mi mj : MaS), ms[i]? = some mi → ms[j]? = some mj → (∃ es, mi.kd = .op es) → (∃ es, mj.kd = .op es) → mi.blk = mj.blk → i = j
  cur : ∀ c, σ.cur = some c → ∃ (i : Nat) (m : MaS) (es : List Ent), ms[i]? = some m ∧ m.kd = .op es ∧ m.blk = c
  tm : ∀ (i : Nat) (m : MaS), ms[i]? = some m → (m.on = true → m.bg < at_) ∧ (m.done = true → m.en < at_)
  rt : ∀ (p i k : Nat) (mi mk : MaS), ord[p]? = some i → ms[i]? = some mi → ms[k]? = some mk → mk.done = true → mk.en < mi.bg → k ∈ ord.take p
section
variable {n : Nat} {M : Nat → Prop} {ks : List Kd} {L0 L L' : Nat → Int} {σ σ' : PwS} {ms : List MaS} {at_ : Nat} {ord : List Nat} {i : Nat} {m m' : MaS}
/-- Real time is kept if a call that is stepped takes effect, or nothing does. -/
theorem Ls.rtStep (h : Ls n M ks L0 σ ms at_ L ord) (hi : ms[i]? = some m) {ord' : List Nat} {c : Nat} (ho : ord' = ord ∨ (ord' = ord ++ [c] ∧ ∃ mc, (ms.set i m')[c]? = some mc ∧ mc.on = true ∧ mc.bg ≤ at_))
    (hb : m.on = true → m'.bg = m.bg) (hbn : i ∈ ord → m.on = true) (hbg : m'.bg ≤ at_) (hd : m'.done = true → m.done = false → m'.en = at_) (hdd : m.done = false) :
    ∀ (p i' k : Nat) (mi mk : MaS), ord'[p]? = some i' → (ms.set i m')[i']? = some mi → (ms.set i m')[k]? = some mk → mk.done = true → mk.en < mi.bg → k ∈ ord'.take p := by
  have hil : i < ms.length := (List.getElem?_eq_some_iff.1 hi).1
  -- the calls' begins lie behind at_
  have hbgs : ∀ (j : Nat) (mj : MaS), j ∈ ord → (ms.set i m')[j]? = some mj → mj.bg ≤ at_ := by
    intro j mj hjo hj
    by_cases hji : i = j
    · subst hji
      rw [List.getElem?_set_self hil] at hj
      injection hj with hj
      rw [← hj]; exact hbg
    · rw [List.getElem?_set_ne hji] at hj
      have := (h.tm j mj hj).1 ((h.ma j mj hj).on (.inl hjo))
      omega
  have old : ∀ (p i' k : Nat) (mi mk : MaS), ord[p]? = some i' → (ms.set i m')[i']? = some mi → (ms.set i m')[k]? = some mk → mk.done = true → mk.en < mi.bg → k ∈ ord.take p := by
    intro p i' k mi mk hp hmi hmk hdk hen
    have hi'o : i' ∈ ord := List.mem_of_getElem? hp
    by_cases hki : i = k
    · subst hki
      rw [List.getElem?_set_self hil] at hmk
      injection hmk with hmk
      rw [← hmk] at hdk hen
      have := hd hdk hdd
      have := hbgs i' mi hi'o hmi
      omega
    · rw [List.getElem?_set_ne hki] at hmk
      by_cases hii : i = i'
      · subst hii
        rw [List.getElem?_set_self hil] at hmi
        injection hmi with hmi
        rw [← hmi, hb (hbn hi'o)] at hen
        exact h.rt p i k m mk hp hi hmk hdk hen
      · rw [List.getElem?_set_ne hii] at hmi
        exact h.rt p i' k mi mk hp hmi hmk hdk hen
  rcases ho with rfl | ⟨rfl, mc, hc, hcon, hcbg⟩
  · exact old
  · intro p i' k mi mk hp hmi hmk hdk hen
    have hpl : p < (ord ++ [c]).length := (List.getElem?_eq_some_iff.1 hp).1
    by_cases hpo : p < ord.length
    · rw [List.getElem?_append_left hpo] at hp
      rw [List.take_append_of_le_length (by omega)]
      exact old p i' k mi mk hp hmi hmk hdk hen
    · have : p = ord.length := by simp at hpl; omega
      subst this
      have hci : c = i' := by simpa using hp
      subst hci
      rw [hc] at hmi
      injection hmi with hmi
      rw [← hmi] at hen
      have e : (ord ++ [c]).take ord.length = ord := by simp
      rw [e]
      by_cases hki : i = k
      · subst hki
        rw [List.getElem?_set_self hil] at hmk
        injection hmk with hmk
        rw [← hmk] at hdk hen
        have := hd hdk hdd
        omega
      · rw [List.getElem?_set_ne hki] at hmk
        exact ((h.ma k mk hmk).dn hdk).1
/-- A call's record after a step. -/
def MaS.now (m : MaS) (at_ : Nat) : MaS := if m.on then m else { m with on := true, bg := at_ }
theorem MaS.now_on (m : MaS) (at_ : Nat) : (m.now at_).on = true := by unfold MaS.now; split <;> simp_all
theorem MaS.now_same (m : MaS) (at_ : Nat) : (m.now at_).kd = m.kd ∧ (m.now at_).blk = m.blk ∧ (m.now at_).rs = m.rs ∧ (m.now at_).done = m.done ∧ (m.now at_).ended = m.ended ∧ (m.now at_).ok = m.ok ∧ (m.now at_).val = m.val := by unfold MaS.now; split <;> exact ⟨rfl, rfl, rfl, rfl, rfl, rfl, rfl⟩
theorem MaS.now_bg (m : MaS) (at_ : Nat) (h : m.on = true → m.bg < at_) : (m.now at_).bg ≤ at_ ∧ (m.on = true → (m.now at_).bg = m.bg) := by
  unfold MaS.now
  split
  · rename_i hon; exact ⟨Nat.le_of_lt (h hon), fun _ => rfl⟩
  · rename_i hon; exact ⟨Nat.le_refl _, fun h => absurd h hon⟩
theorem mapKd_set {i : Nat} (hi : ms[i]? = some m) (hk : m'.kd = m.kd) : (ms.set i m').map (·.kd) = ms.map (·.kd) := by
  apply List.ext_getElem?
  intro j
  rw [List.getElem?_map, List.getElem?_map]
  by_cases hji : i = j
  · subst hji
    rw [List.getElem?_set_self (List.getElem?_eq_some_iff.1 hi).1, hi]
    simp [hk]
  · rw [List.getElem?_set_ne hji]
/-- A call that has not taken effect is not in the order; what a read has found stays. -/
theorem kd_get (h : Ls n M ks L0 σ ms at_ L ord) (hi : ms[i]? = some m) : ks.getD i (.rd 0) = m.kd := by
  rw [← h.kds, List.getD_eq_getElem?_getD, List.getElem?_map, hi]; rfl
/-- The others after a step of a read. -/
theorem MaOk.other {j : Nat} {mj : MaS} (h : MaOk n M ks L0 ord σ j mj) (hops : σ'.ops = σ.ops) (hcur : σ'.cur = σ.cur) {ord' : List Nat} {c : Nat} (ho : ord' = ord ∨ ord' = ord ++ [c]) (hcj : c ≠ j) : MaOk n M ks L0 ord' σ' j mj := by
  have hm : j ∈ ord' ↔ j ∈ ord := by
    rcases ho with rfl | rfl
    · exact Iff.rfl
    · simp [show ¬ j = c from fun e => hcj e.symm]
  have hp : ∀ v, Placed ks L0 ord j v → Placed ks L0 ord' j v := fun v hv => by
    rcases ho with rfl | rfl
    · exact hv
    · exact hv.snoc_old (fun e => hcj e.symm)
  refine ⟨fun hx => h.on (hx.imp hm.1 id), fun hx => ⟨hm.2 (h.dn hx).1, (h.dn hx).2⟩, fun es he => ?_, fun k hk => ?_⟩
  · obtain ⟨o, h1, h2, h3, h4, h5, h6, h7⟩ := h.op es he
    exact ⟨o, by rw [hops]; exact h1, h2, hm.trans h3, hp _ h4, h5, h6, fun hc => h7 (by rw [← hcur]; exact hc)⟩
  · obtain ⟨h1, h2, h3, h4, h5, h6, h7, h8⟩ := h.rd k hk
    exact ⟨h1, h2, h3, h4, h5, hm.trans h6, hp _ h7, h8⟩
/-- A call's record after a step of its read. -/
def MaS.rdd (m : MaS) (at_ : Nat) (r : RdS) : MaS := { m.now at_ with rs := r, done := r.ended, en := if r.ended then at_ else m.en, val := if r.ended then r.raw % 1099511627776 else m.val, ended := if r.ended then true else m.ended }
/-- A read is stepped. -/
theorem Ls.read {sum : List Int → Int} {at0 : Nat → Int} {cnt N : Nat} {xs : List Int} (h : Ls n M ks L0 σ ms at_ L ord) (hI : Inv sum at0 n cnt M N σ xs L) (hN : N < 1000000) (hi : ms[i]? = some m) {k : Nat} (hk : m.kd = .rd k) (hd : m.done = false)
    (hm' : m' = m.rdd at_ (σ.rstep m.rs).2) :
    Inv sum at0 n cnt M (N + 1) (σ.rstep m.rs).1 xs L ∧ ∃ ord', Ls n M ks L0 (σ.rstep m.rs).1 (ms.set i m') (at_ + 1) L ord' := by
  have hil : i < ms.length := (List.getElem?_eq_some_iff.1 hi).1
  have hma := h.ma i m hi
  obtain ⟨r1, r2, r3, r4, r5, r6, r7, r8, r9, r10⟩ := hma.rd k hk
  have he : m.rs.ended = false := by rw [r8]; exact hd
  have hR := hI.rstep hN r1 r2 r3 r4 he r5 (r9 hd)
  obtain ⟨q1, q2, q3⟩ := hR.ops
  obtain ⟨q4, q5, q6⟩ := hR.th
  have q7 := hR.raw
  obtain ⟨q8, q9⟩ := hR.place
  have q10 := hR.ended
  obtain ⟨s1, s2, s3, s4, s5, s6, s7⟩ := m.now_same at_
  obtain ⟨b1, b2⟩ := m.now_bg at_ (h.tm i m hi).1
  obtain ⟨τ, hτ⟩ : ∃ τ, (σ.rstep m.rs).1 = τ := ⟨_, rfl⟩
  obtain ⟨r', hr'⟩ : ∃ r', (σ.rstep m.rs).2 = r' := ⟨_, rfl⟩
  have hinv := hR.inv
  rw [hτ] at q1 q2 q3 hinv ⊢
  rw [hr'] at q4 q5 q6 q7 q8 q9 q10 hm'
  have k1 : m'.kd = m.kd := by rw [hm']; exact s1
  have k2 : m'.blk = m.blk := by rw [hm']; exact s2
  have k3 : m'.on = true := by rw [hm']; exact m.now_on at_
  have k4 : m'.bg = (m.now at_).bg := by rw [hm']; rfl
  have k5 : m'.done = r'.ended := by rw [hm']; rfl
  have k6 : m'.rs = r' := by rw [hm']; rfl
  have k7 : r'.ended = true → m'.en = at_ ∧ m'.val = r'.raw % 1099511627776 ∧ m'.ended = true := fun hx => by rw [hm']; simp [hx, MaS.rdd]
  refine ⟨hinv, if m.rs.place = 0 then ord ++ [i] else ord, ?_⟩
  have hord : (if m.rs.place = 0 then ord ++ [i] else ord) = ord ∨ (if m.rs.place = 0 then ord ++ [i] else ord) = ord ++ [i] := by split <;> simp
  have hin : i ∈ (if m.rs.place = 0 then ord ++ [i] else ord) := by
    split
    · simp
    · rename_i hp; exact r6.2 hp
  have hkl : ks.getD i (.rd 0) = .rd k := by rw [kd_get h hi, hk]
  refine ⟨by rw [mapKd_set hi k1]; exact h.kds, ?_, fun j hj => ?_, ?_, fun j mj hj => ?_, fun a b ma mb ha hb he1 he2 hab => ?_, fun c hc => ?_, fun j mj hj => ?_, ?_⟩
  · split
    · rename_i hp
      refine List.nodup_append.2 ⟨h.nd, by simp, fun x hx y hy => ?_⟩
      have : y = i := by simpa using hy
      rw [this]
      rintro rfl
      exact (r6.1 hx) hp
    · exact h.nd
  · rw [List.length_set]
    rcases hord with e | e
    · rw [e] at hj; exact h.mem j hj
    · rw [e] at hj
      rcases List.mem_append.1 hj with hj | hj
      · exact h.mem j hj
      · have : j = i := by simpa using hj
        rw [this]; exact hil
  · split
    · rw [lin_snoc, hkl, ← h.hL]; rfl
    · exact h.hL
  · by_cases hji : i = j
    · subst hji
      rw [List.getElem?_set_self hil] at hj
      injection hj with hj
      subst hj
      refine ⟨fun _ => k3, fun hx => ⟨hin, (k7 (by rw [← k5]; exact hx)).2.2⟩, fun es hes => (by rw [k1, hk] at hes; cases hes), fun k' hk' => ?_⟩
      rw [k1, hk] at hk'
      injection hk' with hk'
      subst hk'
      rw [k6]
      refine ⟨r1, r2, q5.trans r3, by omega, q6, ⟨fun _ => by omega, fun _ => hin⟩, ?_, k5.symm, fun hx => ?_, fun hx => (k7 (by rw [← k5]; exact hx)).2.1⟩
      · by_cases hp : m.rs.place = 0
        · rw [if_pos hp] at q7 ⊢
          exact Placed.snoc_new (fun hx => (r6.1 hx) hp) (by rw [q7, ← h.hL])
        · rw [if_neg hp] at q7 ⊢
          rw [q7]; exact r7
      · rcases q10 with q | q
        · rw [k5, q] at hx; cases hx
        · exact q
    · rw [List.getElem?_set_ne hji] at hj
      exact (h.ma j mj hj).other q1 q2 hord hji
  · have key : ∀ (j : Nat) (mj : MaS), (ms.set i m')[j]? = some mj → ∃ mj0, ms[j]? = some mj0 ∧ mj0.kd = mj.kd ∧ mj0.blk = mj.blk := by
      intro j mj hj
      by_cases hji : i = j
      · subst hji
        rw [List.getElem?_set_self hil] at hj
        injection hj with hj
        exact ⟨m, hi, by rw [← hj, k1], by rw [← hj, k2]⟩
      · rw [List.getElem?_set_ne hji] at hj
        exact ⟨mj, hj, rfl, rfl⟩
    obtain ⟨ma0, a1, a2, a3⟩ := key a ma ha
    obtain ⟨mb0, c1, c2, c3⟩ := key b mb hb
    exact h.inj a b ma0 mb0 a1 c1 (by rw [a2]; exact he1) (by rw [c2]; exact he2) (by rw [a3, c3]; exact hab)
  · rw [q2] at hc
    obtain ⟨j, mj, es, g1, g2, g3⟩ := h.cur c hc
    by_cases hji : i = j
    · subst hji
      rw [hi] at g1
      injection g1 with g1
      rw [← g1, hk] at g2
      cases g2
    · exact ⟨j, mj, es, by rw [List.getElem?_set_ne hji]; exact g1, g2, g3⟩
  · by_cases hji : i = j
    · subst hji
      rw [List.getElem?_set_self hil] at hj
      injection hj with hj
      subst hj
      exact ⟨fun _ => by rw [k4]; omega, fun hx => by have := (k7 (by rw [← k5]; exact hx)).1; omega⟩
    · rw [List.getElem?_set_ne hji] at hj
      have := h.tm j mj hj
      exact ⟨fun hx => by have := this.1 hx; omega, fun hx => by have := this.2 hx; omega⟩
  · refine h.rtStep hi (c := i) ?_ (fun hx => by rw [k4]; exact b2 hx) (fun hx => hma.on (.inl hx)) (by rw [k4]; exact b1) (fun hx _ => (k7 (by rw [← k5]; exact hx)).1) hd
    rcases hord with e | e
    · exact .inl e
    · exact .inr ⟨e, m', List.getElem?_set_self hil, k3, by rw [k4]; exact b1⟩
end
end Go.Proofs.YtjaohgnloddgfaaGreatDoor

namespace Go.Proofs.YtjaohgnloddgfaaGreatDoor
open Go.RowKit
set_option linter.unusedVariables false
set_option linter.unusedSimpArgs false

section
variable {sum : List Int → Int} {at0 : Nat → Int} {n cnt N N' : Nat} {M : Nat → Prop} {ks : List Kd} {L0 L L' : Nat → Int} {σ σ' : PwS} {ms : List MaS} {at_ : Nat} {ord : List Nat} {i a c : Nat} {m m' : MaS} {o oc : OpS} {xs : List Int} {es : List Ent}
theorem enter_cur (s : Nat) : (σ.enter sum at0 c oc s).cur = σ.cur ∨ (σ.enter sum at0 c oc s).cur = none := by
  unfold PwS.enter
  split
  · exact .inl rfl
  · exact .inr rfl
theorem adv_cur : (σ.adv sum at0 a o c oc).cur = σ.cur ∨ (σ.adv sum at0 a o c oc).cur = none := by
  unfold PwS.adv
  split
  · unfold PwS.load
    dsimp only
    split
    · exact .inl rfl
    · split
      · split
        · exact enter_cur _
        · exact .inl rfl
      · exact .inr rfl
  · rw [OpS.pos_at]
    dsimp only
    split
    · exact .inl rfl
    · split
      · exact enter_cur _
      · exact .inl rfl
theorem fend_cur (e : Int) : (σ.fend a o e).cur = σ.cur ∨ (σ.fend a o e).cur = none := by
  unfold PwS.fend
  dsimp only
  split
  · exact .inr rfl
  · exact .inl rfl
theorem step_cur : (σ.step sum at0 a).1.cur = σ.cur ∨ (σ.step sum at0 a).1.cur = none ∨ (σ.step sum at0 a).1.cur = some a := by
  have two : ∀ {τ τ' : PwS}, (τ.cur = σ.cur ∨ τ.cur = none ∨ τ.cur = some a) → (τ'.cur = τ.cur ∨ τ'.cur = none) → (τ'.cur = σ.cur ∨ τ'.cur = none ∨ τ'.cur = some a) := by
    intro τ τ' h1 h2
    rcases h2 with h2 | h2
    · rw [h2]; exact h1
    · exact .inr (.inl h2)
  unfold PwS.step
  cases ho : σ.ops a with
  | none => exact .inl rfl
  | some o =>
    dsimp only
    split
    · exact .inl rfl
    · split
      · exact two (.inl rfl) (fend_cur _)
      · split
        · exact two (.inl rfl) (fend_cur _)
        · have h0 : (if σ.cur.isSome then σ else { σ with cur := some a } : PwS).cur = σ.cur ∨ (if σ.cur.isSome then σ else { σ with cur := some a } : PwS).cur = none ∨ (if σ.cur.isSome then σ else { σ with cur := some a } : PwS).cur = some a := by
            split
            · exact .inl rfl
            · exact .inr (.inr rfl)
          generalize (if σ.cur.isSome then σ else { σ with cur := some a } : PwS) = σ0 at h0 ⊢
          cases hoc : σ0.ops (σ0.cur.getD a) with
          | none => exact .inl rfl
          | some oc =>
            dsimp only
            have h1 := two (τ' := σ0.adv sum at0 a o (σ0.cur.getD a) oc) h0 adv_cur
            generalize σ0.adv sum at0 a o (σ0.cur.getD a) oc = τ at h1 ⊢
            cases ho1 : τ.ops a with
            | none => exact h1
            | some o1 =>
              dsimp only
              split
              · exact two h1 (fend_cur _)
              · split
                · exact two h1 (fend_cur _)
                · exact h1
theorem Eff.back {L L' : Nat → Int} (h : Eff a σ σ' L L') {x : Nat} {ox' : OpS} (hx : σ'.ops x = some ox') : ∃ ox, σ.ops x = some ox ∧ ox'.es = ox.es ∧ ox'.k = ox.k := by
  have key : (σ'.ops x).map OpS.key = (σ.ops x).map OpS.key → ∃ ox, σ.ops x = some ox ∧ ox'.es = ox.es ∧ ox'.k = ox.k := by
    intro he
    rw [hx, Option.map_some] at he
    cases hb : σ.ops x with
    | none => rw [hb] at he; cases he
    | some ox =>
      rw [hb, Option.map_some] at he
      injection he with he
      exact ⟨ox, rfl, congrArg (fun x => x.1) he, congrArg (fun x => x.2.2.1) he⟩
  rcases h with ⟨h1, h2⟩ | ⟨c, oc, oc', h1, h2, h3, h4, h5, h6, h7, h8, h9, h10, h11⟩
  · exact key (h2 x)
  · by_cases hxc : x = c
    · subst hxc
      rw [h2] at hx
      injection hx with hx
      subst hx
      exact ⟨oc, h1, h6, h8⟩
    · exact key (h11 x hxc)
theorem res_done (h : o.done = true) : o.res = some o.changed := by unfold OpS.res; rw [if_pos h]
/-- A call's record after a step of its operation. -/
def MaS.opd (m : MaS) (at_ : Nat) (b ch : Bool) : MaS := { m.now at_ with done := b, en := if b then at_ else m.en, ok := if b then ch else m.ok, ended := if b then true else m.ended }
/-- An operation is stepped. -/
theorem Ls.oper (h : Ls n M ks L0 σ ms at_ L ord) (hI : Inv sum at0 n cnt M N σ xs L) (hR : RegOk n cnt M at0) (hN : N < 1000000) (hi : ms[i]? = some m) (hk : m.kd = .op es) (hd : m.done = false) :
    ∃ σ' b xs' L' ord' o0 o', σ.ops m.blk = some o0 ∧ σ.step sum at0 m.blk = (σ', b) ∧ Inv sum at0 n cnt M (N + 1) σ' xs' L' ∧ σ'.ops m.blk = some o' ∧ o'.ended = b ∧ (b = true → o'.err = 0) ∧ o'.k = o0.k ∧ (σ'.busy = if b then σ.busy.set o0.k false else σ.busy) ∧ (∀ x ox', σ'.ops x = some ox' → ∃ ox, σ.ops x = some ox ∧ ox'.es = ox.es ∧ ox'.k = ox.k) ∧
      Ls n M ks L0 σ' (ms.set i (m.opd at_ b o'.changed)) (at_ + 1) L' ord' := by
  have hil : i < ms.length := (List.getElem?_eq_some_iff.1 hi).1
  have hma := h.ma i m hi
  obtain ⟨o, p1, p2, p3, p4, p5, p6, p7⟩ := hma.op es hk
  have heo : o.ended = false := by rw [p5]; exact hd
  obtain ⟨σ', b, xs', L', S⟩ := hI.step hR hN p1
  obtain ⟨o', t1, t2, t3, t4, t5, t6, t7, t8⟩ := S.self
  have hcur := step_cur (sum := sum) (at0 := at0) (σ := σ) (a := m.blk)
  rw [S.eq] at hcur
  dsimp only at hcur
  have hbusy : σ'.busy = if b then σ.busy.set o.k false else σ.busy := by rw [S.busy, heo]; simp
  obtain ⟨m', hm'⟩ : ∃ m', m.opd at_ b o'.changed = m' := ⟨_, rfl⟩
  obtain ⟨s1, s2, s3, s4, s5, s6, s7⟩ := m.now_same at_
  obtain ⟨b1, b2⟩ := m.now_bg at_ (h.tm i m hi).1
  have k1 : m'.kd = m.kd := by rw [← hm']; exact s1
  have k2 : m'.blk = m.blk := by rw [← hm']; exact s2
  have k3 : m'.on = true := by rw [← hm']; exact m.now_on at_
  have k4 : m'.bg = (m.now at_).bg := by rw [← hm']; rfl
  have k5 : m'.done = b := by rw [← hm']; rfl
  have k7 : b = true → m'.en = at_ ∧ m'.ok = o'.changed ∧ m'.ended = true := fun hx => by rw [← hm']; simp [hx, MaS.opd]
  -- who takes effect
  have hfin' : ∀ (x : Nat) (ox : OpS), σ'.ops x = some ox → ox.ended = true → ox.done = true := S.inv.fin
  have hord : ∃ ord' : List Nat, (∀ (j : Nat) (mj : MaS) (ej : List Ent) (oj : OpS), ms[j]? = some mj → mj.kd = .op ej → σ.ops mj.blk = some oj → ∃ oj', σ'.ops mj.blk = some oj' ∧ oj'.es = oj.es ∧ (j ∈ ord' ↔ oj'.res ≠ none) ∧ Placed ks L0 ord' j (fun L => oj'.res = some (satL L ej))) ∧
      (ord' = ord ∨ ∃ c mc, ord' = ord ++ [c] ∧ (ms.set i m')[c]? = some mc ∧ mc.on = true ∧ mc.bg ≤ at_ ∧ c ∉ ord ∧ ∃ mc0 ec, ms[c]? = some mc0 ∧ mc0.kd = .op ec) ∧ L' = lin ks L0 ord' := by
    have same : ∀ (x : Nat) (ox : OpS), σ.ops x = some ox → (σ'.ops x).map OpS.key = (σ.ops x).map OpS.key → ∃ ox', σ'.ops x = some ox' ∧ ox'.es = ox.es ∧ ox'.res = ox.res := by
      intro x ox hx hkx
      rw [hx, Option.map_some] at hkx
      cases hx' : σ'.ops x with
      | none => rw [hx'] at hkx; cases hkx
      | some ox' =>
        rw [hx', Option.map_some] at hkx
        injection hkx with hkx
        exact ⟨ox', rfl, congrArg (fun x => x.1) hkx, congrArg (fun x => x.2.2.2) hkx⟩
    rcases S.eff with ⟨e1, e2⟩ | ⟨c, oc, oc', e1, e2, e3, e4, e5, e6, e7, e8, e9, e10, e11⟩
    · refine ⟨ord, fun j mj ej oj hj hkj hoj => ?_, .inl rfl, by rw [e1]; exact h.hL⟩
      obtain ⟨oj', g1, g2, g3⟩ := same _ _ hoj (e2 _)
      obtain ⟨oj2, f1, f2, f3, f4, f5, f6, f7⟩ := (h.ma j mj hj).op ej hkj
      rw [hoj] at f1
      injection f1 with f1
      subst f1
      exact ⟨oj', g1, g2, by rw [g3]; exact f3, by rw [g3]; exact f4⟩
    · -- the call of c
      obtain ⟨j, mj, ej, g1, g2, g3, g4⟩ : ∃ (j : Nat) (mj : MaS) (ej : List Ent), ms[j]? = some mj ∧ mj.kd = .op ej ∧ mj.blk = c ∧ (∃ mc, (ms.set i m')[j]? = some mc ∧ mc.on = true ∧ mc.bg ≤ at_) := by
        have hself : c = m.blk → ∃ (j : Nat) (mj : MaS) (ej : List Ent), ms[j]? = some mj ∧ mj.kd = .op ej ∧ mj.blk = c ∧ (∃ mc, (ms.set i m')[j]? = some mc ∧ mc.on = true ∧ mc.bg ≤ at_) := fun hca =>
          ⟨i, m, es, hi, hk, hca.symm, m', List.getElem?_set_self hil, k3, by rw [k4]; exact b1⟩
        rcases e9 with e9 | e9
        · obtain ⟨j, mj, ej, g1, g2, g3⟩ := h.cur c e9
          by_cases hji : i = j
          · subst hji
            rw [hi] at g1
            injection g1 with g1
            exact hself (by rw [g1]; exact g3.symm)
          · obtain ⟨_, _, _, _, _, _, _, f7⟩ := (h.ma j mj g1).op ej g2
            have hon := f7 (by rw [g3]; exact e9)
            exact ⟨j, mj, ej, g1, g2, g3, mj, by rw [List.getElem?_set_ne hji]; exact g1, hon, by have := (h.tm j mj g1).1 hon; omega⟩
        · exact hself e9
      obtain ⟨mc, g5, g6, g7⟩ := g4
      obtain ⟨oj, f1, f2, f3, f4, f5, f6, f7⟩ := (h.ma j mj g1).op ej g2
      rw [g3, e1] at f1
      injection f1 with f1
      subst f1
      have hjn : j ∉ ord := fun hx => (f3.1 hx) e3
      refine ⟨ord ++ [j], fun j2 mj2 ej2 oj2 hj2 hkj2 hoj2 => ?_, .inr ⟨j, mc, rfl, g5, g6, g7, hjn, mj, ej, g1, g2⟩, ?_⟩
      · by_cases hjj : j = j2
        · subst hjj
          rw [g1] at hj2
          injection hj2 with hj2
          subst hj2
          rw [g2] at hkj2
          injection hkj2 with hkj2
          subst hkj2
          rw [g3, e1] at hoj2
          injection hoj2 with hoj2
          subst hoj2
          refine ⟨oc', by rw [g3]; exact e2, e6, ⟨fun _ => by rw [e4]; simp, fun _ => by simp⟩, Placed.snoc_new hjn ?_⟩
          rw [e4, ← h.hL, f2]
        · have hne : mj2.blk ≠ c := fun hx => hjj (h.inj j j2 mj mj2 g1 hj2 ⟨_, g2⟩ ⟨_, hkj2⟩ (by rw [g3, hx]))
          obtain ⟨oj', y1, y2, y3⟩ := same _ _ hoj2 (e11 _ hne)
          obtain ⟨oj3, w1, w2, w3, w4, _⟩ := (h.ma j2 mj2 hj2).op ej2 hkj2
          rw [hoj2] at w1
          injection w1 with w1
          subst w1
          refine ⟨oj', y1, y2, ?_, by rw [y3]; exact w4.snoc_old (fun hx => hjj hx.symm)⟩
          rw [y3, ← w3]
          simp [show ¬ j2 = j from fun hx => hjj hx.symm]
      · rw [lin_snoc, ← h.hL, kd_get h g1, g2, e5, ← f2]; rfl
  obtain ⟨ord', hops, hor, hL'⟩ := hord
  have hor' : ord' = ord ∨ ∃ c, ord' = ord ++ [c] ∧ c ∉ ord ∧ c < ms.length ∧ (∃ mc0 ec, ms[c]? = some mc0 ∧ mc0.kd = .op ec) ∧ ∃ mc, (ms.set i m')[c]? = some mc ∧ mc.on = true ∧ mc.bg ≤ at_ := by
    rcases hor with e | ⟨c, mc, e, g5, g6, g7, g8, mc0, ec, g9, g10⟩
    · exact .inl e
    · exact .inr ⟨c, e, g8, (List.getElem?_eq_some_iff.1 g9).1, ⟨mc0, ec, g9, g10⟩, mc, g5, g6, g7⟩
  -- each operation's flags
  have hflag : ∀ (j : Nat) (mj : MaS) (ej : List Ent) (oj oj' : OpS), ms[j]? = some mj → mj.kd = .op ej → i ≠ j → σ.ops mj.blk = some oj → σ'.ops mj.blk = some oj' → oj'.ended = oj.ended ∧ (oj.ended = true → oj'.res = oj.res → oj'.changed = oj.changed) := by
    intro j mj ej oj oj' hj hkj hji hoj hoj'
    have hne : mj.blk ≠ m.blk := fun hx => hji (h.inj i j m mj hi hj ⟨_, hk⟩ ⟨_, hkj⟩ hx.symm)
    have hf := S.other _ hne
    rw [hoj, hoj', Option.map_some, Option.map_some] at hf
    injection hf with hf
    have he : oj'.ended = oj.ended := congrArg (fun x => x.1) hf
    refine ⟨he, fun hx hr => ?_⟩
    rw [res_done (hfin' _ _ hoj' (by rw [he]; exact hx)), res_done (hI.fin _ _ hoj hx)] at hr
    injection hr
  refine ⟨σ', b, xs', L', ord', o, o', p1, S.eq, S.inv, t1, t2, fun hb => t6 hb heo, t4, hbusy, fun x ox' hx => S.eff.back hx, ?_⟩
  rw [hm']
  refine ⟨by rw [mapKd_set hi k1]; exact h.kds, ?_, fun j hj => ?_, hL', fun j mj hj => ?_, fun a b ma mb ha hb he1 he2 hab => ?_, fun c hc => ?_, fun j mj hj => ?_, ?_⟩
  · rcases hor' with e | ⟨c, e, hc, _⟩
    · rw [e]; exact h.nd
    · rw [e]
      refine List.nodup_append.2 ⟨h.nd, by simp, fun x hx y hy => ?_⟩
      have : y = c := by simpa using hy
      rw [this]
      rintro rfl
      exact hc hx
  · rw [List.length_set]
    rcases hor' with e | ⟨c, e, _, hc, _⟩
    · rw [e] at hj; exact h.mem j hj
    · rw [e] at hj
      rcases List.mem_append.1 hj with hj | hj
      · exact h.mem j hj
      · have : j = c := by simpa using hj
        rw [this]; exact hc
  · by_cases hji : i = j
    · subst hji
      rw [List.getElem?_set_self hil] at hj
      injection hj with hj
      subst hj
      obtain ⟨o2, y1, y2, y3, y4⟩ := hops i m es o hi hk p1
      rw [t1] at y1
      injection y1 with y1
      subst y1
      refine ⟨fun _ => k3, fun hx => ?_, fun es' hes => ?_, fun k hk' => (by rw [k1, hk] at hk'; cases hk')⟩
      · have hb : b = true := by rw [← k5]; exact hx
        exact ⟨y3.2 (by rw [res_done (hfin' _ _ t1 (by rw [t2]; exact hb))]; simp), (k7 hb).2.2⟩
      · rw [k1, hk] at hes
        injection hes with hes
        subst hes
        exact ⟨o', by rw [k2]; exact t1, t5.trans p2, y3, y4, by rw [k5]; exact t2, fun hx => (k7 (by rw [← k5]; exact hx)).2.1, fun _ => k3⟩
    · rw [List.getElem?_set_ne hji] at hj
      have hj0 := h.ma j mj hj
      have hjord : j ∈ ord' → (∀ k, mj.kd = .rd k → j ∈ ord) := by
        intro hx k hkk
        rcases hor' with e | ⟨c, e, _, _, ⟨mc0, ec, hc1, hc2⟩, _⟩
        · rwa [e] at hx
        · rw [e] at hx
          rcases List.mem_append.1 hx with hx | hx
          · exact hx
          · have : j = c := by simpa using hx
            subst this
            rw [hj] at hc1
            injection hc1 with hc1
            rw [hc1, hc2] at hkk
            cases hkk
      have hjold : j ∈ ord → j ∈ ord' := fun hx => by
        rcases hor' with e | ⟨c, e, _⟩
        · rwa [e]
        · rw [e]; simp [hx]
      refine ⟨fun hx => ?_, fun hx => ⟨hjold (hj0.dn hx).1, (hj0.dn hx).2⟩, fun ej hej => ?_, fun k hkk => ?_⟩
      · rcases hx with hx | hx
        · rcases hor' with e | ⟨c, e, _, _, _, mc, hc1, hc2, _⟩
          · rw [e] at hx; exact hj0.on (.inl hx)
          · rw [e] at hx
            rcases List.mem_append.1 hx with hx | hx
            · exact hj0.on (.inl hx)
            · have : j = c := by simpa using hx
              subst this
              rw [List.getElem?_set_ne hji, hj] at hc1
              injection hc1 with hc1
              rw [hc1]; exact hc2
        · exact hj0.on (.inr hx)
      · obtain ⟨oj, f1, f2, f3, f4, f5, f6, f7⟩ := hj0.op ej hej
        obtain ⟨oj', y1, y2, y3, y4⟩ := hops j mj ej oj hj hej f1
        obtain ⟨w1, w2⟩ := hflag j mj ej oj oj' hj hej hji f1 y1
        refine ⟨oj', y1, y2.trans f2, y3, y4, w1.trans f5, fun hx => ?_, fun hc => ?_⟩
        · have hoe : oj.ended = true := by rw [f5]; exact hx
          have hjo := (hj0.dn hx).1
          obtain ⟨p, hp⟩ := List.getElem?_of_mem hjo
          have hp' : ord'[p]? = some j := by
            rcases hor' with e | ⟨c, e, _⟩
            · rw [e]; exact hp
            · rw [e, List.getElem?_append_left (List.getElem?_eq_some_iff.1 hp).1]; exact hp
          have htk : ord'.take p = ord.take p := by
            rcases hor' with e | ⟨c, e, _⟩
            · rw [e]
            · rw [e, List.take_append_of_le_length (by have := (List.getElem?_eq_some_iff.1 hp).1; omega)]
          have hr1 := f4.at_ p hp
          have hr2 := y4.at_ p hp'
          rw [htk] at hr2
          rw [f6 hx, w2 hoe (hr2.trans hr1.symm)]
        · rcases hcur with e | e | e
          · exact f7 (by rw [← e]; exact hc)
          · rw [e] at hc; cases hc
          · rw [e] at hc
            injection hc with hc
            exact absurd (h.inj i j m mj hi hj ⟨_, hk⟩ ⟨_, hej⟩ hc) hji
      · obtain ⟨h1, h2, h3, h4, h5, h6, h7, h8⟩ := hj0.rd k hkk
        refine ⟨h1, h2, h3, h4, h5, ⟨fun hx => h6.1 (hjord hx k hkk), fun hx => hjold (h6.2 hx)⟩, ?_, h8⟩
        rcases hor' with e | ⟨c, e, _, _, ⟨mc0, ec, hc1, hc2⟩, _⟩
        · rw [e]; exact h7
        · rw [e]
          refine h7.snoc_old (fun hx => ?_)
          subst hx
          rw [hj] at hc1
          injection hc1 with hc1
          rw [hc1, hc2] at hkk
          cases hkk
  · have key : ∀ (j : Nat) (mj : MaS), (ms.set i m')[j]? = some mj → ∃ mj0, ms[j]? = some mj0 ∧ mj0.kd = mj.kd ∧ mj0.blk = mj.blk := by
      intro j mj hj
      by_cases hji : i = j
      · subst hji
        rw [List.getElem?_set_self hil] at hj
        injection hj with hj
        exact ⟨m, hi, by rw [← hj, k1], by rw [← hj, k2]⟩
      · rw [List.getElem?_set_ne hji] at hj
        exact ⟨mj, hj, rfl, rfl⟩
    obtain ⟨ma0, a1, a2, a3⟩ := key a ma ha
    obtain ⟨mb0, c1, c2, c3⟩ := key b mb hb
    exact h.inj a b ma0 mb0 a1 c1 (by rw [a2]; exact he1) (by rw [c2]; exact he2) (by rw [a3, c3]; exact hab)
  · have hself : c = m.blk → ∃ (j : Nat) (mj : MaS) (ej : List Ent), (ms.set i m')[j]? = some mj ∧ mj.kd = .op ej ∧ mj.blk = c := fun hca =>
      ⟨i, m', es, List.getElem?_set_self hil, by rw [k1]; exact hk, by rw [k2]; exact hca.symm⟩
    rcases hcur with e | e | e
    · rw [e] at hc
      obtain ⟨j, mj, ej, g1, g2, g3⟩ := h.cur c hc
      by_cases hji : i = j
      · subst hji
        rw [hi] at g1
        injection g1 with g1
        exact hself (by rw [g1]; exact g3.symm)
      · exact ⟨j, mj, ej, by rw [List.getElem?_set_ne hji]; exact g1, g2, g3⟩
    · rw [e] at hc; cases hc
    · rw [e] at hc
      injection hc with hc
      exact hself hc.symm
  · by_cases hji : i = j
    · subst hji
      rw [List.getElem?_set_self hil] at hj
      injection hj with hj
      subst hj
      exact ⟨fun _ => by rw [k4]; omega, fun hx => by have := (k7 (by rw [← k5]; exact hx)).1; omega⟩
    · rw [List.getElem?_set_ne hji] at hj
      have := h.tm j mj hj
      exact ⟨fun hx => by have := this.1 hx; omega, fun hx => by have := this.2 hx; omega⟩
  · rcases hor' with e | ⟨c, e, _, _, _, mc, hc1, hc2, hc3⟩
    · exact h.rtStep hi (c := 0) (.inl e) (fun hx => by rw [k4]; exact b2 hx) (fun hx => hma.on (.inl hx)) (by rw [k4]; exact b1) (fun hx _ => (k7 (by rw [← k5]; exact hx)).1) hd
    · exact h.rtStep hi (c := c) (.inr ⟨e, mc, hc1, hc2, hc3⟩) (fun hx => by rw [k4]; exact b2 hx) (fun hx => hma.on (.inl hx)) (by rw [k4]; exact b1) (fun hx _ => (k7 (by rw [← k5]; exact hx)).1) hd
end
end Go.Proofs.YtjaohgnloddgfaaGreatDoor

namespace Go.Proofs.YtjaohgnloddgfaaGreatDoor
open Go.RowKit
set_option linter.unusedVariables false
set_option linter.unusedSimpArgs false

structure REnt where
  word : Nat
  old : Int
  new : Int
structure RCall where
  read : Bool
  word : Nat
  es : List REnt
  bg : Int
  en : Int
  ended : Bool
  ok : Bool
  val : Int
def RC0 : RCall := ⟨false, 0, [], 0, 0, false, false, 0⟩
def rSat (vs : List Int) (es : List REnt) : Bool := es.all fun e => gt0 vs e.word == e.old
def rSet (vs : List Int) (es : List REnt) : List Int := es.foldl (fun v e => v.set e.word e.new) vs
def rApply (vs : List Int) (es : List REnt) : List Int := if rSat vs es then rSet vs es else vs
def rBefore (a b : RCall) : Bool := a.ended && decide (a.en < b.bg)
def rFits (vs : List Int) (c : RCall) : Bool := if !c.ended then !c.read else if c.read then gt0 vs c.word == c.val else rSat vs c.es == c.ok
def rNext (l : List RCall) (used : List Bool) (i : Nat) : Bool := !used.getD i true && (List.range l.length).all fun k => !(decide (k ≠ i) && (!used.getD k true && rBefore (l.getD k RC0) (l.getD i RC0)))
def rAfter (vs : List Int) (c : RCall) : List Int := if c.read then vs else rApply vs c.es
def rAll (l : List RCall) (used : List Bool) : Bool := (List.range l.length).all fun i => used.getD i true || !(l.getD i RC0).ended
def expl (l : List RCall) (fin : List Int) : Nat → List Int → List Bool → Bool
  | 0, vs, used => rAll l used && vs == fin
  | n + 1, vs, used => (rAll l used && vs == fin) || (List.range l.length).any fun i => rNext l used i && rFits vs (l.getD i RC0) && expl l fin n (rAfter vs (l.getD i RC0)) (used.set i true)
section
variable {l : List RCall} {fin vs : List Int} {used : List Bool} {n : Nat}
theorem expl_now (h1 : rAll l used = true) (h2 : vs = fin) : expl l fin n vs used = true := by
  cases n with
  | zero => simp [expl, h1, h2]
  | succ n => simp [expl, h1, h2]
theorem expl_go {i : Nat} (hi : i < l.length) (h1 : rNext l used i = true) (h2 : rFits vs (l.getD i RC0) = true) (h3 : expl l fin n (rAfter vs (l.getD i RC0)) (used.set i true) = true) : expl l fin (n + 1) vs used = true := by
  unfold expl
  rw [Bool.or_eq_true]
  right
  rw [List.any_eq_true]
  exact ⟨i, by simpa using hi, by simp only [Bool.and_eq_true]; exact ⟨⟨h1, h2⟩, h3⟩⟩
/-- An order of calls explains them. -/
theorem expl_of (ord : List Nat) (V : Nat → List Int) (hnd : ord.Nodup) (hm : ∀ i ∈ ord, i < l.length) (hV : V ord.length = fin)
    (hs : ∀ p i, ord[p]? = some i → rFits (V p) (l.getD i RC0) = true ∧ V (p + 1) = rAfter (V p) (l.getD i RC0))
    (hr : ∀ p i k, ord[p]? = some i → k < l.length → rBefore (l.getD k RC0) (l.getD i RC0) = true → k ∈ ord.take p)
    (ha : ∀ k, k < l.length → (l.getD k RC0).ended = true → k ∈ ord) :
    ∀ d p, p + d = ord.length → ∀ m, d ≤ m → expl l fin m (V p) ((List.range l.length).map fun i => decide (i ∈ ord.take p)) = true := by
  intro d
  induction d with
  | zero =>
    intro p hp m _
    have hp' : p = ord.length := by omega
    subst hp'
    refine expl_now ?_ hV
    unfold rAll
    rw [List.all_eq_true]
    intro i hi
    have hi' : i < l.length := by simpa using hi
    cases he : (l.getD i RC0).ended with
    | false => simp
    | true =>
      have := ha i hi' he
      simp [List.getD_eq_getElem?_getD, hi', this]
  | succ d ih =>
    intro p hp m hm'
    obtain ⟨m', rfl⟩ : ∃ m', m = m' + 1 := ⟨m - 1, by omega⟩
    have hpl : p < ord.length := by omega
    have hg : ord[p]? = some ord[p] := List.getElem?_eq_getElem hpl
    obtain ⟨i, hi⟩ : ∃ i, ord[p] = i := ⟨_, rfl⟩
    rw [hi] at hg
    have hil : i < l.length := hm i (List.mem_of_getElem? hg)
    obtain ⟨f1, f2⟩ := hs p i hg
    have hnot : i ∉ ord.take p := by
      intro hx
      obtain ⟨q, hq⟩ := List.getElem?_of_mem hx
      have hql : q < p := by have := (List.getElem?_eq_some_iff.1 hq).1; simp at this; omega
      rw [List.getElem?_take, if_pos hql] at hq
      have h1 := (List.getElem?_eq_some_iff.1 hq)
      obtain ⟨h1, h2⟩ := h1
      have := (List.getElem_inj hnd (i := q) (j := p) (h₀ := h1) (h₁ := hpl)).1 (by rw [h2, hi])
      omega
    refine expl_go hil ?_ f1 ?_
    · unfold rNext
      rw [Bool.and_eq_true]
      refine ⟨by simp [List.getD_eq_getElem?_getD, hil, hnot], ?_⟩
      rw [List.all_eq_true]
      intro k hk
      have hk' : k < l.length := by simpa using hk
      by_cases hb : rBefore (l.getD k RC0) (l.getD i RC0) = true
      · have := hr p i k hg hk' hb
        simp [List.getD_eq_getElem?_getD, hk', this]
      · simp only [Bool.not_eq_true] at hb
        rw [hb]; simp
    · rw [← f2]
      have e : ((List.range l.length).map fun i => decide (i ∈ ord.take p)).set i true = (List.range l.length).map fun i => decide (i ∈ ord.take (p + 1)) := by
        apply List.ext_getElem
        · simp
        · intro j h1 h2
          have hjl : j < l.length := by simpa using h2
          have et : ord.take (p + 1) = ord.take p ++ [i] := by rw [List.take_add_one, hg]; rfl
          rw [List.getElem_set]
          simp only [et, List.getElem_map, List.getElem_range]
          by_cases hij : i = j
          · subst hij; simp
          · rw [if_neg hij]; simp [show ¬ j = i from fun h => hij h.symm]
      rw [e]
      exact ih (p + 1) (by omega) m' (by omega)
theorem expl_all (ord : List Nat) (V : Nat → List Int) (hnd : ord.Nodup) (hm : ∀ i ∈ ord, i < l.length) (hV : V ord.length = fin)
    (hs : ∀ p i, ord[p]? = some i → rFits (V p) (l.getD i RC0) = true ∧ V (p + 1) = rAfter (V p) (l.getD i RC0))
    (hr : ∀ p i k, ord[p]? = some i → k < l.length → rBefore (l.getD k RC0) (l.getD i RC0) = true → k ∈ ord.take p)
    (ha : ∀ k, k < l.length → (l.getD k RC0).ended = true → k ∈ ord) : expl l fin l.length (V 0) (List.replicate l.length false) = true := by
  have hlen : ord.length ≤ l.length := by
    have := List.Nodup.length_le_of_subset hnd (l₂ := List.range l.length) (fun i hi => by simpa using hm i hi)
    simpa using this
  have := expl_of ord V hnd hm hV hs hr ha ord.length 0 (by omega) l.length hlen
  have e : (List.range l.length).map (fun i => decide (i ∈ ord.take 0)) = List.replicate l.length false := by
    apply List.ext_getElem <;> simp
  rw [e] at this
  exact this
end
/-- The values of the managed words 288 to 295. -/
def vsOf (L : Nat → Int) : List Int := (List.range 8).map fun j => L (288 + j) % 1099511627776
def entOf (e : REnt) : Ent := ⟨8 * ((288 + e.word : Nat) : Int), e.old, e.new, false⟩
structure RIn (es : List REnt) : Prop where
  w : ∀ e ∈ es, e.word < 8 ∧ 0 ≤ e.old ∧ e.old < 256 ∧ 0 ≤ e.new ∧ e.new < 256
  nd : (es.map (·.word)).Nodup
  l : es.length ≤ 6
def RE0 : REnt := ⟨0, 0, 0⟩
section
variable {L : Nat → Int} {es : List REnt}
theorem length_vsOf : (vsOf L).length = 8 := by simp [vsOf]
theorem vsOf_get {j : Nat} (hj : j < 8) : gt0 (vsOf L) j = L (288 + j) % 1099511627776 := by simp [gt0, vsOf, hj]
theorem entOf_get {q : Nat} (hq : q < es.length) : (es.map entOf).getD q E0 = entOf (es.getD q RE0) := by simp [List.getD_eq_getElem?_getD, hq]
theorem wdE_ref {q : Nat} (hq : q < es.length) : wdE (es.map entOf) q = 288 + (es.getD q RE0).word := by
  unfold wdE; rw [entOf_get hq]; unfold entOf; dsimp only; omega
theorem sat_ref (h : RIn es) : satL L (es.map entOf) = rSat (vsOf L) es := by
  rw [Bool.eq_iff_iff]
  unfold satL rSat
  rw [List.all_eq_true, List.all_eq_true]
  constructor
  · intro hx e he
    obtain ⟨q, hq, rfl⟩ := List.getElem_of_mem he
    have h1 := hx q (by simpa using hq)
    rw [wdE_ref hq, entOf_get hq] at h1
    have h2 : es.getD q RE0 = es[q] := by simp [List.getD_eq_getElem?_getD, hq]
    rw [h2] at h1
    have hw := (h.w _ (List.getElem_mem hq)).1
    rw [vsOf_get hw]
    simpa [Ent.sat, entOf] using h1
  · intro hx q hq
    have hq' : q < es.length := by simpa using hq
    rw [wdE_ref hq', entOf_get hq']
    have h2 : es.getD q RE0 = es[q] := by simp [List.getD_eq_getElem?_getD, hq']
    rw [h2]
    have hw := (h.w _ (List.getElem_mem hq')).1
    have h1 := hx _ (List.getElem_mem hq')
    rw [vsOf_get hw] at h1
    simpa [Ent.sat, entOf] using h1
theorem length_rSet (vs : List Int) (es : List REnt) : (rSet vs es).length = vs.length := by
  unfold rSet
  induction es generalizing vs with
  | nil => rfl
  | cons e es ih => rw [List.foldl_cons, ih]; simp
theorem rSet_ne (vs : List Int) (es : List REnt) {j : Nat} (h : ∀ e ∈ es, e.word ≠ j) : gt0 (rSet vs es) j = gt0 vs j := by
  unfold rSet
  induction es generalizing vs with
  | nil => rfl
  | cons e es ih =>
    rw [List.foldl_cons, ih _ (fun e' he' => h e' (by simp [he']))]
    simp [gt0, h e (by simp)]
theorem rSet_at (vs : List Int) (es : List REnt) (hn : (es.map (·.word)).Nodup) {q : Nat} (hq : q < es.length) (hw : (es.getD q RE0).word < vs.length) : gt0 (rSet vs es) (es.getD q RE0).word = (es.getD q RE0).new := by
  induction es generalizing vs q with
  | nil => simp at hq
  | cons e es ih =>
    rw [List.map_cons, List.nodup_cons] at hn
    unfold rSet
    rw [List.foldl_cons]
    cases q with
    | zero =>
      have h1 := rSet_ne (vs.set e.word e.new) es (j := e.word) (fun e' he' hx => hn.1 (by rw [← hx]; exact List.mem_map_of_mem he'))
      unfold rSet at h1
      simp only [List.getD_cons_zero] at hw ⊢
      rw [h1]; simp [gt0, hw]
    | succ q =>
      have h1 := ih (vs := vs.set e.word e.new) hn.2 (q := q) (by simpa using hq) (by simpa using hw)
      simpa [rSet] using h1
theorem app_ref (h : RIn es) : vsOf (appL L (es.map entOf)) = rSet (vsOf L) es := by
  have hl : (rSet (vsOf L) es).length = 8 := by rw [length_rSet, length_vsOf]
  apply List.ext_getElem
  · rw [length_vsOf, hl]
  · intro j h1 h2
    have hj : j < 8 := by rw [length_vsOf] at h1; exact h1
    rw [← gt0_eq h1, ← gt0_eq h2, vsOf_get hj]
    by_cases hq : ∃ q, q < es.length ∧ (es.getD q RE0).word = j
    · obtain ⟨q, hq, rfl⟩ := hq
      rw [rSet_at _ _ h.nd hq (by rw [length_vsOf]; exact hj)]
      -- the entry with this word is the one that is found
      unfold appL
      cases hf : (List.range (es.map entOf).length).find? (fun q' => wdE (es.map entOf) q' == 288 + (es.getD q RE0).word) with
      | none =>
        rw [List.find?_eq_none] at hf
        exact absurd (hf q (by simpa using hq)) (by rw [wdE_ref hq]; simp)
      | some q' =>
        have g1 := List.find?_some hf
        have g2 : q' < es.length := by simpa using List.mem_of_find?_eq_some hf
        rw [wdE_ref g2] at g1
        have g3 : (es.getD q' RE0).word = (es.getD q RE0).word := by
          have : 288 + (es.getD q' RE0).word = 288 + (es.getD q RE0).word := by simpa using g1
          omega
        have g4 : q' = q := by
          have hx : (es.map (·.word))[q']'(by simpa using g2) = (es.map (·.word))[q]'(by simpa using hq) := by
            simpa [List.getD_eq_getElem?_getD, g2, hq] using g3
          exact (List.getElem_inj h.nd).1 hx
        subst g4
        dsimp only
        rw [entOf_get g2]
        have hr := h.w (es.getD q' RE0) (by rw [List.getD_eq_getElem?_getD, List.getElem?_eq_getElem g2]; exact List.getElem_mem g2)
        unfold Ent.after entOf
        dsimp only
        omega
    · rw [rSet_ne _ _ (fun e he hx => hq (by
        obtain ⟨q, hql, rfl⟩ := List.getElem_of_mem he
        exact ⟨q, hql, by simpa [List.getD_eq_getElem?_getD, hql] using hx⟩)), vsOf_get hj]
      rw [appL_ne (fun q hql hx => hq (by
        have hql' : q < es.length := by simpa using hql
        rw [wdE_ref hql'] at hx
        exact ⟨q, hql', by omega⟩))]
end
end Go.Proofs.YtjaohgnloddgfaaGreatDoor

namespace Go.Proofs.YtjaohgnloddgfaaGreatDoor
open Go.RowKit
set_option linter.unusedVariables false
set_option linter.unusedSimpArgs false

/-- The managed words of the law. -/
def M17 : Nat → Prop := fun k => 288 ≤ k ∧ k < 296
section
variable {sum : List Int → Int} {at0 : Nat → Int} {n cnt N : Nat} {M : Nat → Prop} {ks : List Kd} {L0 L : Nat → Int} {σ : PwS} {ms : List MaS} {at_ : Nat} {ord : List Nat} {i a : Nat} {m : MaS} {o : OpS} {xs : List Int} {D : DevS} {bs : List Bool}
theorem Inv.init (hon : On D n xs N) (hL : ∀ k, M k → 0 ≤ L k ∧ L k < 4611686018427387904) (hx : ∀ k, M k → xs[k]? = some (L k)) : Inv sum at0 n cnt M N { dev := D, busy := bs, cur := none, ops := fun _ => none } xs L :=
  ⟨hon, hL, fun a o h => (by cases h), fun _ => hx, fun c h => (by cases h), fun a o h => (by cases h), fun a o c oc h => (by cases h), fun a o c h => (by cases h), fun a o h => (by cases h)⟩
theorem Inv.addOp (h : Inv sum at0 n cnt M N σ xs L) (ha : σ.ops a = none) (hok : OpOk cnt n M o) (h0 : o.stage = 0) (h1 : o.loaded = 0) (h2 : o.ended = false) (h3 : o.done = false) (h4 : o.tgt = none) : Inv sum at0 n cnt M N { σ.setOp a o with busy := bs } xs L := by
  have key : ∀ b ob, ({ σ.setOp a o with busy := bs } : PwS).ops b = some ob → (b = a ∧ ob = o) ∨ (b ≠ a ∧ σ.ops b = some ob) := by
    intro b ob hb
    have hb2 : (if b = a then some o else σ.ops b) = some ob := hb
    by_cases hba : b = a
    · rw [if_pos hba] at hb2; injection hb2 with hb2; exact .inl ⟨hba, hb2.symm⟩
    · rw [if_neg hba] at hb2; exact .inr ⟨hba, hb2⟩
  have old : ∀ b ob, σ.ops b = some ob → b ≠ a ∧ ({ σ.setOp a o with busy := bs } : PwS).ops b = some ob := by
    intro b ob hb
    have hne : b ≠ a := fun he => by rw [he, ha] at hb; cases hb
    exact ⟨hne, (if_neg hne : (if b = a then some o else σ.ops b) = σ.ops b).trans hb⟩
  refine ⟨h.on, h.hL, fun b ob hb => ?_, h.idle, fun c hc => ?_, fun b ob hb hcb hd => ?_, fun b ob c oc hb hc hoc ht hi hs => ?_, fun b ob c hb ht => ?_, fun b ob hb he => ?_⟩
  · rcases key b ob hb with ⟨_, rfl⟩ | ⟨_, hb⟩
    · exact hok
    · exact h.ok b ob hb
  · obtain ⟨oc, g1, g2⟩ := h.run c hc
    exact ⟨oc, (old c oc g1).2, g2⟩
  · rcases key b ob hb with ⟨_, rfl⟩ | ⟨_, hb⟩
    · exact ⟨h0, h1, h2⟩
    · exact h.fresh b ob hb hcb hd
  · obtain ⟨oc', g1, _⟩ := h.run c hc
    have e := (old c oc' g1).2
    rw [hoc] at e
    injection e with e
    subst e
    rcases key b ob hb with ⟨_, rfl⟩ | ⟨_, hb⟩
    · rw [h4] at ht; cases ht
    · exact h.pos b ob c oc hb hc g1 ht hi hs
  · rcases key b ob hb with ⟨_, rfl⟩ | ⟨_, hb⟩
    · rw [h4] at ht; cases ht
    · obtain ⟨oc, g1, g2⟩ := h.inn b ob c hb ht
      exact ⟨oc, (old c oc g1).2, g2⟩
  · rcases key b ob hb with ⟨_, rfl⟩ | ⟨_, hb⟩
    · rw [h2] at he; cases he
    · exact h.fin b ob hb he
theorem newOp_ok {k th : Nat} {es : List Ent} {order : List Nat} (hth : th < 8) (hk : k < cnt) (h1 : 1 ≤ es.length) (h6 : es.length ≤ 6) (he : ∀ e ∈ es, EntOk n M e) (hnd : ∀ i j, i < es.length → j < es.length → (es.getD i E0).off = (es.getD j E0).off → i = j) (hp : order.Perm (List.range es.length)) :
    OpOk cnt n M ⟨k, th, es, order, List.replicate es.length 0, 0, 0, [], false, false, false, 0, none, 0, 0⟩ := by
  refine ⟨hth, hk, h1, h6, he, hnd, hp, by simp, fun q => ?_⟩
  show 0 ≤ gt0 (List.replicate es.length 0) q ∧ _
  have : gt0 (List.replicate es.length (0 : Int)) q = 0 := by unfold gt0; simp [List.getD_eq_getElem?_getD, List.getElem?_replicate]; split <;> rfl
  rw [this]; omega
/-- Calls that have not begun yet. -/
theorem Ls.start (hc : σ.cur = none) (hk : ms.map (·.kd) = ks) (hm : ∀ (i : Nat) (m : MaS), ms[i]? = some m → m.on = false ∧ m.done = false ∧ (∀ es, m.kd = .op es → ∃ o, σ.ops m.blk = some o ∧ o.es = es ∧ o.res = none ∧ o.ended = false) ∧ ∀ k, m.kd = .rd k → M k ∧ k < 8 * n ∧ m.rs.off = 8 * (k : Int) ∧ m.rs.th < 8 ∧ m.rs.err = 0 ∧ m.rs.place = 0 ∧ m.rs.ended = false)
    (hi : ∀ (i j : Nat) (mi mj : MaS), ms[i]? = some mi → ms[j]? = some mj → (∃ es, mi.kd = .op es) → (∃ es, mj.kd = .op es) → mi.blk = mj.blk → i = j) : Ls n M ks L σ ms 0 L [] := by
  refine ⟨hk, List.nodup_nil, fun i h => (by simp at h), rfl, fun i m h => ?_, hi, fun c h => (by rw [hc] at h; cases h), fun i m h => ?_, fun p i k mi mk h => (by simp at h)⟩
  · obtain ⟨g1, g2, g3, g4⟩ := hm i m h
    refine ⟨fun hx => hx.elim (fun hx => (by simp at hx)) (fun hx => (by rw [g2] at hx; cases hx)), fun hx => (by rw [g2] at hx; cases hx), fun es he => ?_, fun k hk => ?_⟩
    · obtain ⟨o, q1, q2, q3, q4⟩ := g3 es he
      exact ⟨o, q1, q2, by simp [q3], ⟨fun p hp => (by simp at hp)⟩, by rw [q4, g2], fun hx => (by rw [g2] at hx; cases hx), fun hx => (by rw [hc] at hx; cases hx)⟩
    · obtain ⟨q1, q2, q3, q4, q5, q6, q7⟩ := g4 k hk
      exact ⟨q1, q2, q3, q4, q5, by simp [q6], ⟨fun p hp => (by simp at hp)⟩, by rw [q7, g2], fun _ => (by omega), fun hx => (by rw [g2] at hx; cases hx)⟩
  · obtain ⟨g1, g2, _⟩ := hm i m h
    exact ⟨fun hx => (by rw [g1] at hx; cases hx), fun hx => (by rw [g2] at hx; cases hx)⟩
/-- A call that has ended: its place in the order, and what it was told. -/
theorem Ls.told (h : Ls n M ks L0 σ ms at_ L ord) (hI : Inv sum at0 n cnt M N σ xs L) (hi : ms[i]? = some m) (hd : m.done = true) : ∃ p, ord[p]? = some i ∧ (∀ es, m.kd = .op es → m.ok = satL (lin ks L0 (ord.take p)) es) ∧ ∀ k, m.kd = .rd k → m.val = lin ks L0 (ord.take p) k % 1099511627776 := by
  have hma := h.ma i m hi
  obtain ⟨p, hp⟩ := List.getElem?_of_mem (hma.dn hd).1
  refine ⟨p, hp, fun es he => ?_, fun k hk => ?_⟩
  · obtain ⟨o, q1, q2, q3, q4, q5, q6, q7⟩ := hma.op es he
    have h1 := q4.at_ p hp
    rw [res_done (hI.fin _ _ q1 (by rw [q5]; exact hd))] at h1
    injection h1 with h1
    rw [q6 hd, h1]
  · obtain ⟨_, _, _, _, _, _, q7, _, _, q10⟩ := hma.rd k hk
    rw [q10 hd, q7.at_ p hp]
/-- When all calls have ended no operation is the current one. -/
theorem Ls.quiet (h : Ls n M ks L0 σ ms at_ L ord) (hI : Inv sum at0 n cnt M N σ xs L) (hd : ∀ (i : Nat) (m : MaS), ms[i]? = some m → m.done = true) : σ.cur = none := by
  cases hc : σ.cur with
  | none => rfl
  | some c =>
    obtain ⟨oc, g1, g2, g3, _⟩ := hI.run c hc
    obtain ⟨i, m, es, q1, q2, q3⟩ := h.cur c hc
    obtain ⟨o, p1, _, _, _, p5, _⟩ := (h.ma i m q1).op es q2
    rw [q3, g1] at p1
    injection p1 with p1
    rw [← p1, g3, hd i m q1] at p5
    cases p5
/-- What is left to do. -/
def opBl (ms : List MaS) : List Nat := ms.filterMap fun m => match m.kd with
  | .op _ => some m.blk
  | .rd _ => none
def rdW (m : MaS) : Nat := match m.kd with
  | .op _ => 0
  | .rd _ => if m.done then 0 else 4 - m.rs.place
def muS (σ : PwS) (ms : List MaS) : Nat := gSum σ (opBl ms) + (ms.map rdW).sum
theorem opBl_set {m' : MaS} (hi : ms[i]? = some m) (hk : m'.kd = m.kd) (hb : m'.blk = m.blk) : opBl (ms.set i m') = opBl ms := by
  unfold opBl
  induction ms generalizing i with
  | nil => simp at hi
  | cons x ms ih =>
    cases i with
    | zero =>
      have : x = m := by simpa using hi
      subst this
      simp only [List.set_cons_zero, List.filterMap_cons, hk, hb]
    | succ i =>
      simp only [List.set_cons_succ, List.filterMap_cons]
      rw [ih (by simpa using hi)]
theorem sum_set {f : MaS → Nat} {m' : MaS} : ∀ {ms : List MaS} {i : Nat}, ms[i]? = some m → ((ms.set i m').map f).sum + f m = (ms.map f).sum + f m' := by
  intro ms
  induction ms with
  | nil => intro i h; simp at h
  | cons x ms ih =>
    intro i hi
    cases i with
    | zero =>
      have : x = m := by simpa using hi
      subst this
      simp only [List.set_cons_zero, List.map_cons, List.sum_cons]; omega
    | succ i =>
      have := ih (i := i) (by simpa using hi)
      simp only [List.set_cons_succ, List.map_cons, List.sum_cons]; omega
theorem opBl_len : ∀ (ms : List MaS), (opBl ms).length ≤ ms.length := fun ms => by unfold opBl; exact List.length_filterMap_le _ _
theorem mem_opBl {es : List Ent} (hi : ms[i]? = some m) (hk : m.kd = .op es) : m.blk ∈ opBl ms := by
  unfold opBl
  rw [List.mem_filterMap]
  exact ⟨m, List.mem_of_getElem? hi, by rw [hk]⟩
theorem Ls.nodupBl (h : Ls n M ks L0 σ ms at_ L ord) : (opBl ms).Nodup := by
  have key : ∀ (l : List MaS), (∀ (i j : Nat) (mi mj : MaS), l[i]? = some mi → l[j]? = some mj → (∃ es, mi.kd = .op es) → (∃ es, mj.kd = .op es) → mi.blk = mj.blk → i = j) → (opBl l).Nodup := by
    intro l
    induction l with
    | nil => intro _; exact List.nodup_nil
    | cons x l ih =>
      intro hinj
      have ih2 := ih (fun i j mi mj hi hj h1 h2 hb => by
        have := hinj (i + 1) (j + 1) mi mj (by simpa using hi) (by simpa using hj) h1 h2 hb
        omega)
      unfold opBl at ih2 ⊢
      rw [List.filterMap_cons]
      cases hx : x.kd with
      | rd k => exact ih2
      | op es =>
        refine List.nodup_cons.2 ⟨fun hmem => ?_, ih2⟩
        rw [List.mem_filterMap] at hmem
        obtain ⟨y, hy, hyb⟩ := hmem
        obtain ⟨j, hj⟩ := List.getElem?_of_mem hy
        cases hyk : y.kd with
        | rd k => rw [hyk] at hyb; cases hyb
        | op es2 =>
          rw [hyk] at hyb
          injection hyb with hyb
          have := hinj 0 (j + 1) x y (by simp) (by simpa using hj) ⟨es, hx⟩ ⟨es2, hyk⟩ hyb.symm
          omega
  exact key ms h.inj
end
end Go.Proofs.YtjaohgnloddgfaaGreatDoor

namespace Go.Proofs.YtjaohgnloddgfaaGreatDoor
open Go.RowKit
set_option linter.unusedVariables false
set_option linter.unusedSimpArgs false

/-- What is told of a call from the start. -/
structure TdS where
  word : Nat
  es : List REnt
def KdOk (q : TdS) : Kd → Prop
  | .rd k => k = 288 + q.word ∧ q.es = []
  | .op es => es = q.es.map entOf ∧ q.es ≠ []
def TdOk (q : TdS) : Prop := q.word < 8 ∧ RIn q.es
def rcOf (m : MaS) (q : TdS) : RCall := ⟨q.es.isEmpty, q.word, q.es, m.bg, m.en, m.ended, m.ok, m.val⟩
section
variable {sum : List Int → Int} {at0 : Nat → Int} {n cnt N : Nat} {M : Nat → Prop} {ks : List Kd} {L0 L : Nat → Int} {σ : PwS} {ms : List MaS} {at_ : Nat} {ord : List Nat} {i a k : Nat} {m : MaS} {o : OpS} {xs : List Int} {es : List Ent} {qs : List TdS}
theorem muS_read (h : Ls n M ks L0 σ ms at_ L ord) (hI : Inv sum at0 n cnt M N σ xs L) (hN : N < 1000000) (hi : ms[i]? = some m) (hk : m.kd = .rd k) (hd : m.done = false) :
    muS (σ.rstep m.rs).1 (ms.set i (m.rdd at_ (σ.rstep m.rs).2)) + 1 ≤ muS σ ms := by
  obtain ⟨a1, a2, a3, a4, a5, a6, a7, a8, a9, a10⟩ := (h.ma i m hi).rd k hk
  have hR := hI.rstep hN a1 a2 a3 a4 (a8.trans hd) a5 (a9 hd)
  obtain ⟨hop1, hop2, hop3⟩ := hR.ops
  have hkd : (m.rdd at_ (σ.rstep m.rs).2).kd = m.kd := (m.now_same at_).1
  have hbk : (m.rdd at_ (σ.rstep m.rs).2).blk = m.blk := (m.now_same at_).2.1
  have e1 : gSum (σ.rstep m.rs).1 (opBl (ms.set i (m.rdd at_ (σ.rstep m.rs).2))) = gSum σ (opBl ms) := by
    rw [opBl_set hi hkd hbk]
    unfold gSum
    congr 1
    refine List.map_congr_left (fun b _ => ?_)
    unfold gAt curO
    rw [hop1, hop2]
  have e2 := sum_set (f := rdW) (m' := m.rdd at_ (σ.rstep m.rs).2) hi
  have e3 : rdW (m.rdd at_ (σ.rstep m.rs).2) + 1 ≤ rdW m := by
    have hp := hR.place.1
    have h9 := a9 hd
    have : rdW (m.rdd at_ (σ.rstep m.rs).2) = if (σ.rstep m.rs).2.ended then 0 else 4 - (σ.rstep m.rs).2.place := by
      unfold rdW
      rw [hkd, hk]
      rfl
    have h0 : rdW m = 4 - m.rs.place := by
      unfold rdW
      rw [hk]
      dsimp only
      rw [hd]; simp
    rw [this, h0]
    split <;> omega
  unfold muS
  omega
theorem muS_op (h : Ls n M ks L0 σ ms at_ L ord) (hI : Inv sum at0 n cnt M N σ xs L) (hR : RegOk n cnt M at0) (hN : N < 1000000) (hl : ms.length ≤ 3) (hi : ms[i]? = some m) (hk : m.kd = .op es) (hd : m.done = false) (b ch : Bool) :
    muS (σ.step sum at0 m.blk).1 (ms.set i (m.opd at_ b ch)) + 1 ≤ muS σ ms := by
  obtain ⟨o, o1, o2, o3, o4, o5, o6, o7⟩ := (h.ma i m hi).op es hk
  have hdec := hI.step_dec hR hN o1 (o5.trans hd) (al := opBl ms) h.nodupBl (mem_opBl hi hk) (Nat.le_trans (opBl_len ms) hl)
  have hkd : (m.opd at_ b ch).kd = m.kd := (m.now_same at_).1
  have hbk : (m.opd at_ b ch).blk = m.blk := (m.now_same at_).2.1
  have e2 := sum_set (f := rdW) (m' := m.opd at_ b ch) hi
  have e3 : rdW (m.opd at_ b ch) = 0 := by unfold rdW; rw [hkd, hk]
  have e4 : rdW m = 0 := by unfold rdW; rw [hk]
  unfold muS
  rw [opBl_set hi hkd hbk]
  omega
theorem muS_le (hI : Inv sum at0 n cnt M N σ xs L) (hl : ms.length ≤ 3) : muS σ ms ≤ 2316 := by
  have h1 := gSum_le hI (al := opBl ms) (Nat.le_trans (opBl_len ms) hl)
  have h2 : ∀ l : List MaS, (l.map rdW).sum ≤ 4 * l.length := by
    intro l
    induction l with
    | nil => simp
    | cons x l ih =>
      have : rdW x ≤ 4 := by unfold rdW; split <;> (try split) <;> omega
      simp only [List.map_cons, List.sum_cons, List.length_cons]; omega
  have := h2 ms
  unfold muS
  omega
/-- The records of the calls. -/
def rcs (ms : List MaS) (qs : List TdS) : List RCall := (ms.zip qs).map fun p => rcOf p.1 p.2
theorem length_rcs (h : qs.length = ms.length) : (rcs ms qs).length = ms.length := by simp [rcs, h]
theorem rcs_get (h : qs.length = ms.length) {i : Nat} (hi : i < ms.length) : (rcs ms qs).getD i RC0 = rcOf (ms[i]'hi) (qs[i]'(by omega)) := by
  rw [List.getD_eq_getElem?_getD, List.getElem?_eq_getElem (by rw [length_rcs h]; exact hi)]
  simp [rcs]
/-- Calls that have all ended are explained by the order in which they took effect. -/
theorem Ls.explains (h : Ls n M ks L0 σ ms at_ L ord) (hI : Inv sum at0 n cnt M N σ xs L) (hd : ∀ (i : Nat) (m : MaS), ms[i]? = some m → m.done = true) (hql : qs.length = ms.length)
    (hq : ∀ (i : Nat) (m : MaS) (q : TdS), ms[i]? = some m → qs[i]? = some q → KdOk q m.kd ∧ TdOk q) : expl (rcs ms qs) (vsOf L) (rcs ms qs).length (vsOf L0) (List.replicate (rcs ms qs).length false) = true := by
  have hdup : ∀ (p p' i : Nat), ord[p]? = some i → ord[p']? = some i → p = p' := by
    intro p p' i h1 h2
    obtain ⟨l1, e1⟩ := List.getElem?_eq_some_iff.1 h1
    obtain ⟨l2, e2⟩ := List.getElem?_eq_some_iff.1 h2
    exact (List.getElem_inj h.nd).1 (e1.trans e2.symm)
  have hV0 : vsOf L0 = (fun p => vsOf (lin ks L0 (ord.take p))) 0 := rfl
  rw [hV0]
  refine expl_all ord (fun p => vsOf (lin ks L0 (ord.take p))) h.nd (fun i hi => by rw [length_rcs hql]; exact h.mem i hi) (by rw [List.take_length, h.hL]) (fun p i hp => ?_) (fun p i k hp hk hb => ?_) (fun k hk _ => ?_)
  · have hil : i < ms.length := h.mem i (List.mem_of_getElem? hp)
    have hi : ms[i]? = some ms[i] := List.getElem?_eq_getElem hil
    have hqi : qs[i]? = some (qs[i]'(by omega)) := List.getElem?_eq_getElem (by omega)
    obtain ⟨hk, hw, hr⟩ := hq i _ _ hi hqi
    obtain ⟨p', hp', t1, t2⟩ := h.told hI hi (hd i _ hi)
    have hen := ((h.ma i _ hi).dn (hd i _ hi)).2
    have := hdup p p' i hp hp'
    subst this
    rw [rcs_get hql hil]
    have hts : ord.take (p + 1) = ord.take p ++ [i] := by
      obtain ⟨l1, e1⟩ := List.getElem?_eq_some_iff.1 hp
      rw [List.take_succ_eq_append_getElem l1, e1]
    rw [hts, lin_snoc, kd_get h hi]
    generalize lin ks L0 (ord.take p) = Lp at *
    generalize qs[i] = q at *
    generalize ms[i] = mi at *
    cases hkd : mi.kd with
    | rd k =>
      rw [hkd] at hk
      obtain ⟨hk1, hk2⟩ := hk
      have hv := t2 k hkd
      refine ⟨?_, ?_⟩
      · unfold rFits rcOf
        dsimp only
        rw [hen, hk2, hv, hk1, vsOf_get hw]
        simp
      · unfold rAfter rcOf linS
        dsimp only
        rw [hk2]
        simp
    | op es =>
      rw [hkd] at hk
      obtain ⟨hk1, hk2⟩ := hk
      have hv := t1 es hkd
      have hre : q.es.isEmpty = false := by cases hqe : q.es with
        | nil => exact absurd hqe hk2
        | cons x l => rfl
      refine ⟨?_, ?_⟩
      · unfold rFits rcOf
        dsimp only
        rw [hen, hre, hv, hk1, sat_ref hr]
        simp
      · unfold rAfter rcOf linS
        dsimp only
        rw [hre, hk1]
        unfold rApply
        rw [sat_ref hr]
        cases hs : rSat (vsOf Lp) q.es with
        | true => simp [app_ref hr]
        | false => simp
  · rw [length_rcs hql] at hk
    have hil : i < ms.length := h.mem i (List.mem_of_getElem? hp)
    rw [rcs_get hql hk, rcs_get hql hil] at hb
    unfold rBefore rcOf at hb
    dsimp only at hb
    rw [Bool.and_eq_true, decide_eq_true_eq] at hb
    have h1 : ms[k].en < ms[i].bg := by omega
    exact h.rt p i k _ _ hp (List.getElem?_eq_getElem hil) (List.getElem?_eq_getElem hk) (hd k _ (List.getElem?_eq_getElem hk)) h1
  · rw [length_rcs hql] at hk
    have hk' : ms[k]? = some ms[k] := List.getElem?_eq_getElem hk
    exact ((h.ma k _ hk').dn (hd k _ hk')).1
end
end Go.Proofs.YtjaohgnloddgfaaGreatDoor

namespace Go.Proofs.YtjaohgnloddgfaaGreatDoor
open Go.RowKit
set_option linter.unusedVariables false
set_option linter.unusedSimpArgs false

/-- The descriptors in use are those of the operations that have not ended. -/
structure BZ (σ : PwS) (ms : List MaS) (dk : Nat → Nat) : Prop where
  len : σ.busy.length = 8
  at_ : ∀ (i : Nat) (m : MaS) (es : List Ent), ms[i]? = some m → m.kd = .op es → dk i < 8 ∧ ∃ o, σ.ops m.blk = some o ∧ o.k = dk i
  inj : ∀ (i j : Nat) (mi mj : MaS) (ei ej : List Ent), ms[i]? = some mi → ms[j]? = some mj → mi.kd = .op ei → mj.kd = .op ej → dk i = dk j → i = j
  bt : ∀ k, k < 8 → (σ.busy.getD k false = true ↔ ∃ (i : Nat) (m : MaS) (es : List Ent), ms[i]? = some m ∧ m.kd = .op es ∧ m.done = false ∧ dk i = k)
theorem get_set_cases {ms : List MaS} {i j : Nat} {m m' mj : MaS} (hi : ms[i]? = some m) (hj : (ms.set i m')[j]? = some mj) : (j = i ∧ mj = m') ∨ (j ≠ i ∧ ms[j]? = some mj) := by
  by_cases h : j = i
  · subst h
    have hl := (List.getElem?_eq_some_iff.1 hi).1
    rw [List.getElem?_set_self hl] at hj
    injection hj with hj
    exact .inl ⟨rfl, hj.symm⟩
  · rw [List.getElem?_set_ne (Ne.symm h)] at hj
    exact .inr ⟨h, hj⟩
theorem get_set_self {ms : List MaS} {i : Nat} {m m' : MaS} (hi : ms[i]? = some m) : (ms.set i m')[i]? = some m' := List.getElem?_set_self (List.getElem?_eq_some_iff.1 hi).1
theorem get_set_ne {ms : List MaS} {i j : Nat} {m' mj : MaS} (h : j ≠ i) (hj : ms[j]? = some mj) : (ms.set i m')[j]? = some mj := by
  rw [List.getElem?_set_ne (Ne.symm h)]; exact hj
section
variable {sum : List Int → Int} {at0 : Nat → Int} {n cnt N : Nat} {M : Nat → Prop} {ks : List Kd} {L0 L : Nat → Int} {σ σ' : PwS} {ms : List MaS} {at_ : Nat} {ord : List Nat} {i a k : Nat} {m m' : MaS} {o : OpS} {xs : List Int} {es : List Ent} {qs : List TdS} {dk : Nat → Nat}
theorem BZ.read (h : BZ σ ms dk) (hi : ms[i]? = some m) (hk : m.kd = .rd k) (hk' : m'.kd = .rd k) (ho : σ'.ops = σ.ops) (hb : σ'.busy = σ.busy) : BZ σ' (ms.set i m') dk := by
  have key : ∀ (j : Nat) (mj : MaS) (es : List Ent), (ms.set i m')[j]? = some mj → mj.kd = .op es → ms[j]? = some mj := by
    intro j mj es hj hkj
    rcases get_set_cases hi hj with ⟨_, h2⟩ | ⟨_, h2⟩
    · rw [h2, hk'] at hkj; cases hkj
    · exact h2
  refine ⟨by rw [hb]; exact h.len, fun j mj es hj hkj => by rw [ho]; exact h.at_ j mj es (key j mj es hj hkj) hkj, fun i1 j1 mi mj ei ej h1 h2 h3 h4 h5 => h.inj i1 j1 mi mj ei ej (key _ _ _ h1 h3) (key _ _ _ h2 h4) h3 h4 h5, fun q hq => ?_⟩
  rw [hb, h.bt q hq]
  constructor
  · rintro ⟨j, mj, es, h1, h2, h3, h4⟩
    refine ⟨j, mj, es, get_set_ne (fun he => ?_) h1, h2, h3, h4⟩
    rw [he, hi] at h1
    injection h1 with h1
    rw [← h1, hk] at h2; cases h2
  · rintro ⟨j, mj, es, h1, h2, h3, h4⟩
    exact ⟨j, mj, es, key _ _ _ h1 h2, h2, h3, h4⟩
theorem BZ.oper (h : BZ σ ms dk) (hi : ms[i]? = some m) (hk : m.kd = .op es) (hk' : m'.kd = .op es) (hbk : m'.blk = m.blk) (hd : m.done = false) {b : Bool} (hd' : m'.done = b) {o0 : OpS} (ho0 : σ.ops m.blk = some o0) (hbusy : σ'.busy = if b then σ.busy.set o0.k false else σ.busy)
    (hback : ∀ x ox', σ'.ops x = some ox' → ∃ ox, σ.ops x = some ox ∧ ox'.es = ox.es ∧ ox'.k = ox.k) (hfw : ∀ (j : Nat) (mj : MaS) (es : List Ent), (ms.set i m')[j]? = some mj → mj.kd = .op es → ∃ o, σ'.ops mj.blk = some o) : BZ σ' (ms.set i m') dk := by
  obtain ⟨hdk, o1, ho1, hk1⟩ := h.at_ i m es hi hk
  rw [ho0] at ho1
  injection ho1 with ho1
  subst ho1
  have kd_of : ∀ (j : Nat) (mj : MaS) (ej : List Ent), (ms.set i m')[j]? = some mj → mj.kd = .op ej → ∃ mj0, ms[j]? = some mj0 ∧ mj0.kd = .op ej ∧ mj0.blk = mj.blk ∧ (j ≠ i → mj0 = mj) := by
    intro j mj ej hj hkj
    rcases get_set_cases hi hj with ⟨h1, h2⟩ | ⟨h1, h2⟩
    · exact ⟨m, by rw [h1]; exact hi, by rw [h2, hk'] at hkj; rw [hk, hkj], by rw [h2, hbk], fun h => absurd h1 h⟩
    · exact ⟨mj, h2, hkj, rfl, fun _ => rfl⟩
  refine ⟨?_, fun j mj ej hj hkj => ?_, fun i1 j1 mi mj ei ej h1 h2 h3 h4 h5 => ?_, fun q hq => ?_⟩
  · rw [hbusy]; split
    · rw [List.length_set]; exact h.len
    · exact h.len
  · obtain ⟨mj0, g1, g2, g3, _⟩ := kd_of j mj ej hj hkj
    obtain ⟨q1, ox, q2, q3⟩ := h.at_ j mj0 ej g1 g2
    obtain ⟨o', p1⟩ := hfw j mj ej hj hkj
    obtain ⟨oy, p2, _, p4⟩ := hback _ _ p1
    rw [← g3, q2] at p2
    injection p2 with p2
    exact ⟨q1, o', p1, by rw [p4, ← p2, q3]⟩
  · obtain ⟨m1, g1, g2, _⟩ := kd_of i1 mi ei h1 h3
    obtain ⟨m2, g3, g4, _⟩ := kd_of j1 mj ej h2 h4
    exact h.inj i1 j1 m1 m2 ei ej g1 g3 g2 g4 h5
  · cases b with
    | false =>
      rw [hbusy, if_neg (by simp), h.bt q hq]
      constructor
      · rintro ⟨j, mj, ej, h1, h2, h3, h4⟩
        by_cases hji : j = i
        · subst hji
          exact ⟨j, m', es, get_set_self hi, hk', hd', h4⟩
        · exact ⟨j, mj, ej, get_set_ne hji h1, h2, h3, h4⟩
      · rintro ⟨j, mj, ej, h1, h2, h3, h4⟩
        rcases get_set_cases hi h1 with ⟨g1, g2⟩ | ⟨g1, g2⟩
        · exact ⟨i, m, es, hi, hk, hd, by rw [← g1]; exact h4⟩
        · exact ⟨j, mj, ej, g2, h2, h3, h4⟩
    | true =>
      rw [hbusy, if_pos rfl, hk1]
      by_cases hqi : q = dk i
      · subst hqi
        have hl : dk i < σ.busy.length := by rw [h.len]; exact hq
        rw [List.getD_eq_getElem?_getD, List.getElem?_set_self hl]
        constructor
        · intro hx; simp at hx
        · rintro ⟨j, mj, ej, h1, h2, h3, h4⟩
          obtain ⟨mj0, g1, g2, _, g4⟩ := kd_of j mj ej h1 h2
          have hji := h.inj j i mj0 m ej es g1 hi g2 hk h4
          subst hji
          rw [get_set_self hi] at h1
          injection h1 with h1
          rw [← h1, hd'] at h3; cases h3
      · rw [List.getD_eq_getElem?_getD, List.getElem?_set_ne (Ne.symm hqi), ← List.getD_eq_getElem?_getD, h.bt q hq]
        constructor
        · rintro ⟨j, mj, ej, h1, h2, h3, h4⟩
          exact ⟨j, mj, ej, get_set_ne (fun he => hqi (by rw [← h4, he])) h1, h2, h3, h4⟩
        · rintro ⟨j, mj, ej, h1, h2, h3, h4⟩
          rcases get_set_cases hi h1 with ⟨g1, g2⟩ | ⟨g1, g2⟩
          · exact absurd (by rw [← h4, g1]) hqi
          · exact ⟨j, mj, ej, g2, h2, h3, h4⟩
theorem BZ.free (h : BZ σ ms dk) (hd : ∀ (i : Nat) (m : MaS), ms[i]? = some m → m.done = true) : σ.busy = List.replicate 8 false := by
  apply List.ext_getElem
  · rw [h.len]; simp
  · intro q h1 h2
    have hq : q < 8 := by rw [h.len] at h1; exact h1
    simp only [List.getElem_replicate]
    have hb := h.bt q hq
    rw [List.getD_eq_getElem?_getD, List.getElem?_eq_getElem h1, Option.getD_some] at hb
    cases hx : σ.busy[q] with
    | false => rfl
    | true =>
      obtain ⟨i, m, es, g1, _, g3, _⟩ := hb.1 hx
      rw [hd i m g1] at g3; cases g3
/-- What is kept between the steps of a run. -/
structure QS (sum : List Int → Int) (at0 : Nat → Int) (n : Nat) (M : Nat → Prop) (ks : List Kd) (L0 : Nat → Int) (dk : Nat → Nat) (B : Nat) (σ : PwS) (ms : List MaS) (at_ : Nat) : Prop where
  ex : ∃ (N : Nat) (xs : List Int) (L : Nat → Int) (ord : List Nat), Inv sum at0 n 8 M N σ xs L ∧ Ls n M ks L0 σ ms at_ L ord ∧ N ≤ B + at_
  len : ms.length ≤ 3
  bz : BZ σ ms dk
/-- A call of the run is stepped. -/
theorem QS.read {B : Nat} (h : QS sum at0 n M ks L0 dk B σ ms at_) (hB : B + at_ < 1000000) (hi : ms[i]? = some m) (hk : m.kd = .rd k) (hd : m.done = false) :
    QS sum at0 n M ks L0 dk B (σ.rstep m.rs).1 (ms.set i (m.rdd at_ (σ.rstep m.rs).2)) (at_ + 1) ∧ muS (σ.rstep m.rs).1 (ms.set i (m.rdd at_ (σ.rstep m.rs).2)) + 1 ≤ muS σ ms ∧ (σ.rstep m.rs).2.err = 0 := by
  obtain ⟨N, xs, L, ord, hI, hL, hN⟩ := h.ex
  have hN2 : N < 1000000 := by omega
  obtain ⟨a1, a2, a3, a4, a5, a6, a7, a8, a9, a10⟩ := (hL.ma i m hi).rd k hk
  have hR := hI.rstep hN2 a1 a2 a3 a4 (a8.trans hd) a5 (a9 hd)
  obtain ⟨hI2, ord', hL2⟩ := hL.read hI hN2 hi hk hd rfl
  have hkd : (m.rdd at_ (σ.rstep m.rs).2).kd = .rd k := (m.now_same at_).1.trans hk
  exact ⟨⟨⟨N + 1, xs, L, ord', hI2, hL2, by omega⟩, by rw [List.length_set]; exact h.len, h.bz.read hi hk hkd hR.ops.1 hR.ops.2.2⟩, muS_read hL hI hN2 hi hk hd, hR.th.2.2⟩
theorem QS.oper {B : Nat} (h : QS sum at0 n M ks L0 dk B σ ms at_) (hR : RegOk n 8 M at0) (hB : B + at_ < 1000000) (hi : ms[i]? = some m) (hk : m.kd = .op es) (hd : m.done = false) :
    ∃ σ' b o', σ.step sum at0 m.blk = (σ', b) ∧ σ'.ops m.blk = some o' ∧ o'.ended = b ∧ (b = true → o'.err = 0) ∧ QS sum at0 n M ks L0 dk B σ' (ms.set i (m.opd at_ b o'.changed)) (at_ + 1) ∧ muS σ' (ms.set i (m.opd at_ b o'.changed)) + 1 ≤ muS σ ms := by
  obtain ⟨N, xs, L, ord, hI, hL, hN⟩ := h.ex
  have hN2 : N < 1000000 := by omega
  obtain ⟨σ', b, xs', L', ord', o0, o', r1, r2, r3, r4, r5, r6, r7, r8, r9, r10⟩ := hL.oper hI hR hN2 hi hk hd
  have hmu := muS_op hL hI hR hN2 h.len hi hk hd b o'.changed
  rw [r2] at hmu
  have hkd : (m.opd at_ b o'.changed).kd = .op es := (m.now_same at_).1.trans hk
  refine ⟨σ', b, o', r2, r4, r5, r6, ⟨⟨N + 1, xs', L', ord', r3, r10, by omega⟩, by rw [List.length_set]; exact h.len, ?_⟩, hmu⟩
  exact h.bz.oper hi hk hkd (m.now_same at_).2.1 hd rfl r1 r8 r9 (fun j mj ej hj hkj => by
    obtain ⟨o, q1, _⟩ := (r10.ma j mj hj).op ej hkj
    exact ⟨o, q1⟩)
/-- One more change of a word by a call. -/
def ct (ok : Bool) (q : TdS) (j : Nat) : Int := if ok && q.es.any (fun e => e.word == j) then 1 else 0
def ctAll (ms : List MaS) (qs : List TdS) (j : Nat) : Int := ((ms.zip qs).map fun p => ct p.1.ok p.2 j).sum
end
end Go.Proofs.YtjaohgnloddgfaaGreatDoor
