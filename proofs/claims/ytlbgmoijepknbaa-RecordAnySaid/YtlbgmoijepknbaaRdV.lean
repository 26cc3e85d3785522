/- Slices of any values of one cell: read, and of the call's own. -/
import Derived.Test.YtlbgmoijepknbaaApp
namespace Go.Proofs.Ytlbgmoijepknbaa
open Go.RowKit
set_option linter.unusedVariables false

/-- A slice that is read: its address and the values that its cells hold. -/
def RdV (w : World) (A : Option Addr) (vs : List Value) : Prop :=
  vs = [] ∨ ∃ b off, A = some ⟨b, off, none⟩ ∧ b < w.heap.size ∧ ∀ i (h : i < vs.length), w.cell? ⟨b, off + i, none⟩ = some vs[i]
section
variable {w w' : World} {A : Option Addr} {vs : List Value}
theorem RdV.nil : RdV w A [] := .inl rfl
theorem RdV.at_ (h : RdV w A vs) {i : Nat} (hi : i < vs.length) :
    ∃ b off, A = some ⟨b, off, none⟩ ∧ b < w.heap.size ∧ w.cell? ⟨b, off + i, none⟩ = some vs[i] := by
  rcases h with h | ⟨b, off, h1, h2, h3⟩
  · subst h; simp at hi
  · exact ⟨b, off, h1, h2, h3 i hi⟩
theorem RdV.keep (h : RdV w A vs) (hs : w.heap.size ≤ w'.heap.size) (hc : ∀ b o, b < w.heap.size → w'.cell? ⟨b, o, none⟩ = w.cell? ⟨b, o, none⟩) : RdV w' A vs := by
  rcases h with h | ⟨b, off, h1, h2, h3⟩
  · exact .inl h
  · exact .inr ⟨b, off, h1, Nat.lt_of_lt_of_le h2 hs, fun i hi => (hc _ _ h2).trans (h3 i hi)⟩
theorem RdV.below (h : RdV w A vs) (hb : Below w.heap.size w w') : RdV w' A vs :=
  h.keep hb.size fun b o hlt => hb.cell (p := ⟨b, o, none⟩) hlt
theorem RdV.bx (h : RdV w A vs) (x : BX w) : RdV x.w A vs := h.below x.below
theorem RdV.alloc (h : RdV w A vs) (o : Obj) : RdV (w.alloc o) A vs :=
  h.below ((Below.refl _ _).alloc (Nat.le_refl _) o)
theorem RdV.drew (h : RdV w A vs) : RdV w.drew A vs := h
theorem RdV.drewN (h : RdV w A vs) (n : Nat) : RdV (w.drewN n) A vs := h
theorem RdV.take (h : RdV w A vs) (n : Nat) : RdV w A (vs.take n) := by
  rcases h with rfl | ⟨b, off, h1, h2, h3⟩
  · left; simp
  · refine .inr ⟨b, off, h1, h2, fun i hi => ?_⟩
    simp only [List.length_take] at hi
    rw [h3 i (by omega), List.getElem_take]
end

/-- A slice of values of one cell in a row of the call's own (or nil). -/
def OwnV (e : TypeId) (w : World) (base : Nat) (A : Option Addr) (c : Nat) (vs : List Value) : Prop :=
  w.ownsRow base e 1 (.slice A vs.length c) vs.length vs
section
variable {e : TypeId} {w w' : World} {base : Nat} {A : Option Addr} {c : Nat} {vs : List Value}
theorem OwnV.cases (h : OwnV e w base A c vs) : (A = none ∧ vs = [] ∧ c = 0) ∨ ∃ g cur, A = some ⟨g, 0, none⟩ ∧ base ≤ g ∧ w.heap[g]? = some (.cells cur e (0, 0)) ∧ vs.length ≤ c ∧ c ≤ maxLen ∧ cur.size = c ∧ cur.toList.take vs.length = vs := by
  obtain ⟨h1, h2⟩ := h
  rcases h2 with ⟨h2, h3⟩ | ⟨g, cap, cur, hv, h4, h5, h6, h7, h8, h9⟩
  · injection h2 with h2 h2' h2''
    exact .inl ⟨h2, List.eq_nil_of_length_eq_zero h3, h2''⟩
  · injection hv with hv hv' hv''
    subst hv hv''
    exact .inr ⟨g, cur, rfl, h4, h5, h6, h7, by simpa using h8, by simpa using h9⟩
theorem OwnV.rd (h : OwnV e w base A c vs) : RdV w A vs := by
  rcases h.cases with ⟨_, rfl, _⟩ | ⟨g, cur, rfl, hg, hh, _, _, _, ht⟩
  · exact .inl rfl
  · have hlt : g < w.heap.size := (Array.getElem?_eq_some_iff.1 hh).1
    refine .inr ⟨g, 0, rfl, hlt, fun i hi => ?_⟩
    have h1 : (cur.toList.take vs.length)[i]? = some vs[i] := by rw [ht]; simp [hi]
    rw [List.getElem?_take] at h1
    simp only [hi, if_true] at h1
    simp [World.cell?, hh]
    simpa using h1
theorem OwnV.lt (h : OwnV e w base A c vs) {b : Nat} (hb : OwnB A b) : base ≤ b ∧ b < w.heap.size := by
  rcases h.cases with ⟨rfl, rfl, _⟩ | ⟨g, cur, rfl, hg, hh, _, _, _, ht⟩
  · simp [OwnB] at hb
  · have : g = b := by simpa [OwnB] using hb
    subst this
    exact ⟨hg, (Array.getElem?_eq_some_iff.1 hh).1⟩
theorem OwnV.keep (h : OwnV e w base A c vs) (hb : ∀ b, OwnB A b → w'.heap[b]? = w.heap[b]?) : OwnV e w' base A c vs := by
  refine ⟨h.1, ?_⟩
  rcases h.2 with h2 | ⟨g, cap, cur, hv, h4, h5, r⟩
  · exact .inl h2
  · have hA : A = some ⟨g, 0, none⟩ := by injection hv
    exact .inr ⟨g, cap, cur, hv, h4, by rw [hb g (by rw [hA]; simp [OwnB])]; exact h5, r⟩
theorem OwnV.ch {S : Nat → Prop} (h : OwnV e w base A c vs) (hc : Ch S w w') (hS : ∀ b, OwnB A b → ¬ S b) : OwnV e w' base A c vs :=
  h.keep fun b hb => hc.block b (h.lt hb).2 (hS b hb)
theorem OwnV.below (h : OwnV e w base A c vs) (hb : Below w.heap.size w w') : OwnV e w' base A c vs := h.keep fun b hb' => hb.block b (h.lt hb').2
theorem OwnV.bx (h : OwnV e w base A c vs) (x : BX w) : OwnV e x.w base A c vs := h.below x.below
theorem OwnV.alloc (h : OwnV e w base A c vs) (o : Obj) : OwnV e (w.alloc o) base A c vs := h.below (bl_alloc (Below.refl _ _) _)
theorem OwnV.drewN (h : OwnV e w base A c vs) (n : Nat) : OwnV e (w.drewN n) base A c vs := h
theorem OwnV.drew (h : OwnV e w base A c vs) : OwnV e w.drew base A c vs := h
theorem OwnV.nil : OwnV e w base none 0 [] := by
  have := World.ownsRow_nil w base e 1
  exact this
/-- An empty slice with room. -/
theorem OwnV.room {g : Nat} {cur : Array Value} (hh : w.heap[g]? = some (.cells cur e (0, 0))) (hg : base ≤ g) (hl : cur.size ≤ 1000000000000) : OwnV e w base (some ⟨g, 0, none⟩) cur.size [] := by
  refine ⟨by simp, .inr ⟨g, cur.size, cur, rfl, hg, hh, by simp, by unfold maxLen; omega, by simp, by simp⟩⟩
theorem OwnV.full {g : Nat} {vs : List Value} (hh : w.heap[g]? = some (.cells vs.toArray e (0, 0))) (hg : base ≤ g) (hl : vs.length ≤ 1000000000000) : OwnV e w base (some ⟨g, 0, none⟩) vs.length vs := by
  refine ⟨by simp, .inr ⟨g, vs.length, vs.toArray, rfl, hg, hh, by simp, by unfold maxLen; omega, by simp, by simp⟩⟩
end

/-- append onto a slice of the call's own. -/
theorem run_append_vals {P : Program} (w : World) (t ty e : TypeId) (zv : Value) (hflat : zv.cells = #[zv]) (by_ : Nat) (ht : P.underlying t = some (.slice e)) (hinfo : (P.info? e).map (fun i => (i.zero, i.size, i.bytes)) = some (some zv, 1, by_)) (hby : by_ ≤ 64)
    (base : Nat) (A : Option Addr) (c : Nat) (xs : List Value) (n : Nat) (hn : xs.length = n) (hown : OwnV e w base A c xs) (sp : Option Addr) (m d : Nat) (ys : List Value) (hm : ys.length = m) (hr : RdV w sp ys) (hf : ∀ u ∈ ys, u.oneCell' = true)
    (hbound : xs.length + ys.length ≤ 1000000000) (hbase : base ≤ w.heap.size) :
    ∃ A' c' w', (Builtin.append_ #[t, t] ty #[.slice A n c, .slice sp m d]).run P w = .ok (.slice A' (n + m) c') w' ∧ OwnV e w' base A' c' (xs ++ ys) ∧ Ch (OwnB A) w w' ∧ (∀ b, OwnB A' b → OwnB A b ∨ b = w.heap.size) := by
  subst hn hm
  cases hi : P.info? e with
  | none => rw [hi] at hinfo; cases hinfo
  | some i =>
    rw [hi] at hinfo
    simp only [Option.map_some, Option.some.injEq, Prod.mk.injEq] at hinfo
    obtain ⟨hz, hs, hb⟩ := hinfo
    have hbb : (xs.length + ys.length) * by_ ≤ (xs.length + ys.length) * 64 := Nat.mul_le_mul_left _ hby
    by_cases hy : ys = []
    · subst hy
      refine ⟨A, c, w, ?_, by simpa using hown, Ch.refl _ _, fun b hb => .inl hb⟩
      rcases hown.2 with ⟨hv, h0⟩ | ⟨g, cap, cur, hv, _, _, hnc, _⟩
      · injection hv with hv hv' hv''
        subst hv hv''
        rcases sp with _ | ad
        · simp [Builtin.append_, run_underlying ht, sizeOf, typeInfo, hi, Builtin.lenOf, Builtin.firstCells, h0]
        · simp [Builtin.append_, run_underlying ht, sizeOf, typeInfo, hi, Builtin.lenOf, Builtin.firstCells, loadCells, loadCellsFrom, h0]
      · injection hv with hv hv' hv''
        subst hv hv''
        rcases sp with _ | ad
        · simp [Builtin.append_, run_underlying ht, sizeOf, typeInfo, hi, Builtin.lenOf, Builtin.firstCells, hnc, storeCells]
        · simp [Builtin.append_, run_underlying ht, sizeOf, typeInfo, hi, Builtin.lenOf, Builtin.firstCells, loadCells, loadCellsFrom, hnc, storeCells]
    · have hpos : 0 < ys.length := List.length_pos_iff.2 hy
      obtain ⟨b, off, rfl, hlt, _⟩ := hr.at_ hpos
      obtain ⟨v', w', hrun, ho, hg, _, hwhere⟩ := run_append_own_at (P := P) w base t ty e i zv 1 by_ ht hi hz hs hb (by rw [hflat]; rfl) (by omega) (.slice A xs.length c) xs.length xs hown ⟨b, off, none⟩ ys.length d ys (by simp)
        (fun j u hu => by
          obtain ⟨hj, rfl⟩ := List.getElem?_eq_some_iff.1 hu
          have h1 : (⟨b, off, none⟩ : Addr).add j = ⟨b, off + j, none⟩ := by unfold Addr.add; split <;> simp_all
          rw [h1]
          obtain ⟨b', off', h2, _, h3⟩ := hr.at_ hj
          injection h2 with h2
          injection h2 with h2 h2'
          subst h2 h2'
          exact h3)
        (fun u hu => hf u hu)
        (by unfold maxLen; omega) (by omega) hbase
      have hne : 0 < xs.length + ys.length := by omega
      obtain ⟨g, cap, hv, _, _⟩ := ho.form hne
      subst hv
      refine ⟨_, _, w', hrun, ?_, ?_, ?_⟩
      · unfold OwnV
        rw [List.length_append]
        exact ho
      · refine ⟨hg.os, hg.tape, hg.output, hg.size, fun q hq hS => hg.block q hq (fun he => hS ?_)⟩
        rcases hown.2 with ⟨hv, h0⟩ | ⟨g', cap', cur, hv, _⟩
        · injection hv with hv
          subst hv
          simp [Value.ownBlock] at he
        · injection hv with hv
          subst hv
          simp [Value.ownBlock] at he
          simp [OwnB, he]
      · intro q hq
        have hgq : g = q := by simpa [OwnB] using hq
        subst hgq
        rcases hwhere with hw | hw
        · left
          rcases hown.2 with ⟨hv, h0⟩ | ⟨g', cap', cur, hv, _⟩
          · injection hv with hv
            subst hv
            simp [Value.ownBlock] at hw
          · injection hv with hv
            subst hv
            simp [Value.ownBlock] at hw
            simp [OwnB, hw]
        · right
          simpa [Value.ownBlock] using hw

theorem wpList_append_vals {P : Program} {w : World} {ops : Array Oper} {rest : List Oper} {o : Oper} {a : Act} {Q : Exit → Act → World → Prop} (hgd : o.guard = none) (s x : Operand) (t : TypeId)
    (ho : o.op = .call { callee := .builtin .append, args := #[s, x], argTypes := #[t, t] }) (e : TypeId) (zv : Value) (hflat : zv.cells = #[zv]) (by_ : Nat) (ht : P.underlying t = some (.slice e)) (hinfo : (P.info? e).map (fun i => (i.zero, i.size, i.bytes)) = some (some zv, 1, by_)) (hby : by_ ≤ 64)
    (base : Nat) (A : Option Addr) (c : Nat) (xs : List Value) (n : Nat) (sp : Option Addr) (m d : Nat) (ys : List Value) (hse : a.eval s = .slice A n c) (hxe : a.eval x = .slice sp m d)
    (hn : xs.length = n) (hown : OwnV e w base A c xs) (hm : ys.length = m) (hr : RdV w sp ys) (hf : ∀ u ∈ ys, u.oneCell' = true)
    (hbound : xs.length + ys.length ≤ 1000000000) (hbase : base ≤ w.heap.size)
    (h : ∀ A' c' w', Hid (OwnV e w' base A' c' (xs ++ ys)) → Hid (Ch (OwnB A) w w') → Hid (∀ b, OwnB A' b → OwnB A b ∨ b = w.heap.size) → wpList P ops Q rest (a.put o.dst (.slice A' (n + m) c')) w') : wpList P ops Q (o :: rest) a w := by
  refine wpList_plain hgd fun K hK => ?_
  obtain ⟨A', c', w', hrun, h1, h2, h3⟩ := run_append_vals (P := P) w t o.type e zv hflat by_ ht hinfo hby base A c xs n hn hown sp m d ys hm hr hf hbound hbase
  unfold Oper.wp execOp
  simp only [ho, resolve, invoke, builtin, Sem.run_bind, Sem.run_pure, Result.andThen_ok, List.map_toArray, List.map_cons, List.map_nil, hse, hxe, hrun]
  exact hK _ _ (h A' c' w' h1 h2 h3)

/-- make of an empty slice with a capacity. -/
theorem run_make_capV {P : Program} (t e : TypeId) (zv : Value) (hflat : zv.cells = #[zv]) (kl kc : IntKind) (n : Nat) (ht : P.underlying t = some (.slice e)) (by_ : Nat) (hinfo : (P.info? e).map (fun i => (i.zero, i.size, i.bytes)) = some (some zv, 1, by_))
    (hby : by_ ≤ 64) (hn : n ≤ 4398046511104) (w : World) :
    (Instr.makeSlice t (.int kl 0) (.int kc (n : Int))).run P w = .ok (.slice (some ⟨w.heap.size, 0, none⟩) 0 n) (w.alloc (.cells (List.replicate n zv).toArray e)) := by
  cases hi : P.info? e with
  | none => rw [hi] at hinfo; cases hinfo
  | some i =>
    rw [hi] at hinfo
    simp only [Option.map_some, Option.some.injEq, Prod.mk.injEq] at hinfo
    obtain ⟨hz, hs, hb⟩ := hinfo
    have hr := run_make (P := P) w t e i zv ht hi hz kl kc 0 n (by omega) (by omega) (by rw [hb]; have h9 : by_ * n ≤ 64 * n := Nat.mul_le_mul_right n hby; have : ((by_ * n : Nat) : Int) = (by_ : Int) * (n : Int) := Int.natCast_mul _ _; omega) (by omega)
    rw [hr, hs]
    simp only [Int.toNat_natCast, Nat.mul_one, Int.toNat_zero]
    congr 3
    congr 1
    simp only [madeCells, hflat]
    apply Array.ext
    · simp
    · intro i h1 h2
      simp [Nat.mod_one]
/-- A slice of one value that was just built. -/
theorem rdV_one (e : TypeId) (w : World) (v : Value) : RdV (w.alloc (.cells #[v] e)) (some ⟨w.heap.size, 0, none⟩) [v] := by
  refine .inr ⟨w.heap.size, 0, rfl, by simp, fun i hi => ?_⟩
  have : i = 0 := by simpa using hi
  subst this
  simp
end Go.Proofs.Ytlbgmoijepknbaa
