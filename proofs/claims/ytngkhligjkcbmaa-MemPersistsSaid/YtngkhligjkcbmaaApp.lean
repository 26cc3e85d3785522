/- Slices of integers that a call makes and appends to. -/
import Derived.Test.YtngkhligjkcbmaaLib
import Derived.Maps.AppendAt
import Derived.Deep.AppendLies
import Derived.RegionTactic
import Derived.OwnWalk
namespace Go.Proofs.Ytngkhligjkcbmaa
open Go.RowKit
set_option linter.unusedVariables false

/-- A slice of integers in a row of the call's own (or nil). -/
def OwnI (k : IntKind) (e : TypeId) (w : World) (base : Nat) (A : Option Addr) (c : Nat) (xs : List Int) : Prop :=
  w.ownsRow base e 1 (.slice A xs.length c) xs.length (xs.map (Value.int k))
/-- The block of an address. -/
def OwnB (A : Option Addr) (b : Nat) : Prop := A.map (·.block) = some b
@[go_sem] theorem OwnB_some (a : Addr) (b : Nat) : OwnB (some a) b ↔ a.block = b := by simp [OwnB]
@[go_sem] theorem OwnB_none (b : Nat) : ¬ OwnB none b := by simp [OwnB]

section
variable {k : IntKind} {e : TypeId} {w w' : World} {base : Nat} {A : Option Addr} {c : Nat} {xs : List Int}
theorem OwnI.cases (h : OwnI k e w base A c xs) : (A = none ∧ xs = [] ∧ c = 0) ∨ ∃ g cur, A = some ⟨g, 0, none⟩ ∧ base ≤ g ∧ w.heap[g]? = some (.cells cur e (0, 0)) ∧ xs.length ≤ c ∧ c ≤ maxLen ∧ cur.size = c ∧ cur.toList.take xs.length = xs.map (Value.int k) := by
  obtain ⟨h1, h2⟩ := h
  rcases h2 with ⟨h2, h3⟩ | ⟨g, cap, cur, hv, h4, h5, h6, h7, h8, h9⟩
  · injection h2 with h2 h2' h2''
    exact .inl ⟨h2, List.eq_nil_of_length_eq_zero h3, h2''⟩
  · injection hv with hv hv' hv''
    subst hv hv''
    exact .inr ⟨g, cur, rfl, h4, h5, h6, h7, by simpa using h8, by simpa using h9⟩
theorem OwnI.rd (h : OwnI k e w base A c xs) : Rd k w A xs := by
  rcases h.cases with ⟨_, rfl, _⟩ | ⟨g, cur, rfl, hg, hh, _, _, _, ht⟩
  · exact .inl rfl
  · have hlt : g < w.heap.size := (Array.getElem?_eq_some_iff.1 hh).1
    refine .inr ⟨g, 0, rfl, hlt, fun i hi => ?_⟩
    have h1 : (cur.toList.take xs.length)[i]? = some (.int k xs[i]) := by rw [ht]; simp [hi]
    rw [List.getElem?_take] at h1
    simp only [hi, if_true] at h1
    simp [World.cell?, hh]
    simpa using h1
theorem OwnI.lt (h : OwnI k e w base A c xs) {b : Nat} (hb : OwnB A b) : base ≤ b ∧ b < w.heap.size := by
  rcases h.cases with ⟨rfl, rfl, _⟩ | ⟨g, cur, rfl, hg, hh, _, _, _, ht⟩
  · simp [OwnB] at hb
  · have : g = b := by simpa [OwnB] using hb
    subst this
    exact ⟨hg, (Array.getElem?_eq_some_iff.1 hh).1⟩
theorem OwnI.keep (h : OwnI k e w base A c xs) (hb : ∀ b, OwnB A b → w'.heap[b]? = w.heap[b]?) : OwnI k e w' base A c xs := by
  refine ⟨h.1, ?_⟩
  rcases h.2 with h2 | ⟨g, cap, cur, hv, h4, h5, r⟩
  · exact .inl h2
  · have hA : A = some ⟨g, 0, none⟩ := by injection hv
    exact .inr ⟨g, cap, cur, hv, h4, by rw [hb g (by rw [hA]; simp [OwnB])]; exact h5, r⟩
theorem OwnI.ch {S : Nat → Prop} (h : OwnI k e w base A c xs) (hc : Ch S w w') (hS : ∀ b, OwnB A b → ¬ S b) : OwnI k e w' base A c xs :=
  h.keep fun b hb => hc.block b (h.lt hb).2 (hS b hb)
theorem OwnI.below (h : OwnI k e w base A c xs) (hb : Below w.heap.size w w') : OwnI k e w' base A c xs := h.keep fun b hb' => hb.block b (h.lt hb').2
theorem OwnI.bx (h : OwnI k e w base A c xs) (x : BX w) : OwnI k e x.w base A c xs := h.below x.below
theorem OwnI.alloc (h : OwnI k e w base A c xs) (o : Obj) : OwnI k e (w.alloc o) base A c xs := h.below (bl_alloc (Below.refl _ _) _)
theorem OwnI.drewN (h : OwnI k e w base A c xs) (n : Nat) : OwnI k e (w.drewN n) base A c xs := h
theorem OwnI.drew (h : OwnI k e w base A c xs) : OwnI k e w.drew base A c xs := h
theorem OwnI.nil : OwnI k e w base none 0 [] := by
  have := World.ownsRow_nil w base e 1
  exact this
theorem OwnI.lower {base' : Nat} (h : OwnI k e w base A c xs) (hb : base' ≤ base) : OwnI k e w base' A c xs := by
  refine ⟨h.1, ?_⟩
  rcases h.2 with h2 | ⟨g, cap, cur, hv, h4, h5, r⟩
  · exact .inl h2
  · exact .inr ⟨g, cap, cur, hv, Nat.le_trans hb h4, h5, r⟩
theorem OwnI.made (w : World) (n : Nat) (hn : n ≤ 1000000000000) (hb : base ≤ w.heap.size) : OwnI k e (w.alloc (.cells (ia k (List.replicate n 0)) e)) base (some ⟨w.heap.size, 0, none⟩) n [] := by
  refine ⟨by simp, .inr ⟨w.heap.size, n, _, rfl, hb, heap_alloc_new w _, by simp, by unfold maxLen; omega, by simp [ia], by simp⟩⟩
theorem OwnI.of_ib {g : Nat} (h : IB k e w g xs) (hg : base ≤ g) (hl : xs.length ≤ 1000000000000) : OwnI k e w base (some ⟨g, 0, none⟩) xs.length xs := by
  refine ⟨by simp, .inr ⟨g, xs.length, _, rfl, hg, h, by simp, by unfold maxLen; omega, by simp [ia], by simp only [ia]; rw [List.take_of_length_le (by simp)]⟩⟩
end

/-- append onto a slice of integers of the call's own. -/
theorem run_append_ints {P : Program} (w : World) (t ty e : TypeId) (k : IntKind) (by_ : Nat) (ht : P.underlying t = some (.slice e)) (hinfo : (P.info? e).map (fun i => (i.zero, i.size, i.bytes)) = some (some (.int k 0), 1, by_)) (hby : by_ ≤ 8)
    (base : Nat) (A : Option Addr) (c : Nat) (xs : List Int) (n : Nat) (hn : xs.length = n) (hown : OwnI k e w base A c xs) (sp : Option Addr) (m d : Nat) (ys : List Int) (hm : ys.length = m) (hr : Rd k w sp ys)
    (hbound : xs.length + ys.length ≤ 1000000000000) (hbase : base ≤ w.heap.size) :
    ∃ A' c' w', (Builtin.append_ #[t, t] ty #[.slice A n c, .slice sp m d]).run P w = .ok (.slice A' (n + m) c') w' ∧ OwnI k e w' base A' c' (xs ++ ys) ∧ Ch (OwnB A) w w' ∧ (∀ b, OwnB A' b → OwnB A b ∨ b = w.heap.size) := by
  subst hn hm
  cases hi : P.info? e with
  | none => rw [hi] at hinfo; cases hinfo
  | some i =>
    rw [hi] at hinfo
    simp only [Option.map_some, Option.some.injEq, Prod.mk.injEq] at hinfo
    obtain ⟨hz, hs, hb⟩ := hinfo
    have hbb : (xs.length + ys.length) * by_ ≤ (xs.length + ys.length) * 8 := Nat.mul_le_mul_left _ hby
    by_cases hy : ys = []
    · subst hy
      refine ⟨A, c, w, ?_, by simpa using hown, Ch.refl _ _, fun b hb => .inl hb⟩
      rcases hown.2 with ⟨hv, h0⟩ | ⟨g, cap, cur, hv, _, _, hnc, _⟩
      · injection hv with hv hv' hv''
        subst hv hv''
        rcases sp with _ | ad
        · simp [Builtin.append_, run_underlying ht, sizeOf, typeInfo, hi, Builtin.lenOf, Builtin.firstCells, h0]
        · simp [Builtin.append_, run_underlying ht, sizeOf, typeInfo, hi, Builtin.lenOf, Builtin.firstCells, loadCells, loadCellsFrom, h0]
      · injection hv with hv hv' hv''
        subst hv hv''
        rcases sp with _ | ad
        · simp [Builtin.append_, run_underlying ht, sizeOf, typeInfo, hi, Builtin.lenOf, Builtin.firstCells, hnc, storeCells]
        · simp [Builtin.append_, run_underlying ht, sizeOf, typeInfo, hi, Builtin.lenOf, Builtin.firstCells, loadCells, loadCellsFrom, hnc, storeCells]
    · have hpos : 0 < ys.length := List.length_pos_iff.2 hy
      obtain ⟨b, off, rfl, hlt, _⟩ := hr.at_ hpos
      obtain ⟨v', w', hrun, ho, hg, _, hwhere⟩ := run_append_own_at (P := P) w base t ty e i (.int k 0) 1 by_ ht hi hz hs hb rfl (by omega) (.slice A xs.length c) xs.length (xs.map (Value.int k)) hown ⟨b, off, none⟩ ys.length d (ys.map (Value.int k)) (by simp)
        (fun j u hu => by
          simp only [List.getElem?_map, Option.map_eq_some_iff] at hu
          obtain ⟨y, hy, rfl⟩ := hu
          obtain ⟨hj, rfl⟩ := List.getElem?_eq_some_iff.1 hy
          have h1 : (⟨b, off, none⟩ : Addr).add j = ⟨b, off + j, none⟩ := by unfold Addr.add; split <;> simp_all
          rw [h1]
          obtain ⟨b', off', h2, _, h3⟩ := hr.at_ hj
          injection h2 with h2
          injection h2 with h2 h2'
          subst h2 h2'
          exact h3)
        (fun u hu => by
          obtain ⟨y, _, rfl⟩ := List.mem_map.1 hu
          rfl)
        (by unfold maxLen; omega) (by omega) hbase
      have hne : 0 < xs.length + ys.length := by omega
      obtain ⟨g, cap, hv, _, _⟩ := ho.form hne
      subst hv
      refine ⟨_, _, w', hrun, ?_, ?_, ?_⟩
      · unfold OwnI
        rw [List.length_append, List.map_append]
        exact ho
      · refine ⟨hg.os, hg.tape, hg.output, hg.size, fun q hq hS => hg.block q hq (fun he => hS ?_)⟩
        rcases hown.2 with ⟨hv, h0⟩ | ⟨g', cap', cur, hv, _⟩
        · injection hv with hv
          subst hv
          simp [Value.ownBlock] at he
        · injection hv with hv
          subst hv
          simp [Value.ownBlock] at he
          simp [OwnB, he]
      · intro q hq
        have hgq : g = q := by simpa [OwnB] using hq
        subst hgq
        rcases hwhere with hw | hw
        · left
          rcases hown.2 with ⟨hv, h0⟩ | ⟨g', cap', cur, hv, _⟩
          · injection hv with hv
            subst hv
            simp [Value.ownBlock] at hw
          · injection hv with hv
            subst hv
            simp [Value.ownBlock] at hw
            simp [OwnB, hw]
        · right
          simpa [Value.ownBlock] using hw

theorem wpList_append_ints {P : Program} {w : World} {ops : Array Oper} {rest : List Oper} {o : Oper} {a : Act} {Q : Exit → Act → World → Prop} (hgd : o.guard = none) (s x : Operand) (t : TypeId)
    (ho : o.op = .call { callee := .builtin .append, args := #[s, x], argTypes := #[t, t] }) (e : TypeId) (k : IntKind) (by_ : Nat) (ht : P.underlying t = some (.slice e)) (hinfo : (P.info? e).map (fun i => (i.zero, i.size, i.bytes)) = some (some (.int k 0), 1, by_)) (hby : by_ ≤ 8)
    (base : Nat) (A : Option Addr) (c : Nat) (xs : List Int) (n : Nat) (sp : Option Addr) (m d : Nat) (ys : List Int) (hse : a.eval s = .slice A n c) (hxe : a.eval x = .slice sp m d)
    (hn : xs.length = n) (hown : OwnI k e w base A c xs) (hm : ys.length = m) (hr : Rd k w sp ys)
    (hbound : xs.length + ys.length ≤ 1000000000000) (hbase : base ≤ w.heap.size)
    (h : ∀ A' c' w', Hid (OwnI k e w' base A' c' (xs ++ ys)) → Hid (Ch (OwnB A) w w') → Hid (∀ b, OwnB A' b → OwnB A b ∨ b = w.heap.size) → wpList P ops Q rest (a.put o.dst (.slice A' (n + m) c')) w') : wpList P ops Q (o :: rest) a w := by
  refine wpList_plain hgd fun K hK => ?_
  obtain ⟨A', c', w', hrun, h1, h2, h3⟩ := run_append_ints (P := P) w t o.type e k by_ ht hinfo hby base A c xs n hn hown sp m d ys hm hr hbound hbase
  unfold Oper.wp execOp
  simp only [ho, resolve, invoke, builtin, Sem.run_bind, Sem.run_pure, Result.andThen_ok, List.map_toArray, List.map_cons, List.map_nil, hse, hxe, hrun]
  exact hK _ _ (h A' c' w' h1 h2 h3)

/-- make of an empty slice with a capacity. -/
theorem run_make_cap {P : Program} (t e : TypeId) (k kl kc : IntKind) (n : Nat) (ht : P.underlying t = some (.slice e)) (by_ : Nat) (hinfo : (P.info? e).map (fun i => (i.zero, i.size, i.bytes)) = some (some (.int k 0), 1, by_))
    (hby : by_ ≤ 8) (hn : n ≤ 35184372088832) (w : World) :
    (Instr.makeSlice t (.int kl 0) (.int kc (n : Int))).run P w = .ok (.slice (some ⟨w.heap.size, 0, none⟩) 0 n) (w.alloc (.cells (ia k (List.replicate n (0 : Int))) e)) := by
  cases hi : P.info? e with
  | none => rw [hi] at hinfo; cases hinfo
  | some i =>
    rw [hi] at hinfo
    simp only [Option.map_some, Option.some.injEq, Prod.mk.injEq] at hinfo
    obtain ⟨hz, hs, hb⟩ := hinfo
    have hr := run_make (P := P) w t e i (.int k 0) ht hi hz kl kc 0 n (by omega) (by omega) (by rw [hb]; have h9 : by_ * n ≤ 8 * n := Nat.mul_le_mul_right n hby; have : ((by_ * n : Nat) : Int) = (by_ : Int) * (n : Int) := Int.natCast_mul _ _; omega) (by omega)
    rw [hr, hs]
    simp only [Int.toNat_natCast, Nat.mul_one, Int.toNat_zero]
    congr 3
    congr 1
    simp only [madeCells, Value.cells, ia, List.map_replicate]
    apply Array.ext
    · simp
    · intro i h1 h2
      simp [Nat.mod_one]

theorem IB.new_at (k : IntKind) (e : TypeId) (w : World) (g : Nat) (xs : List Int) (hg : g = w.heap.size) : IB k e (w.alloc (.cells (ia k xs) e)) g xs := by subst hg; exact IB.new w xs
theorem IB.bx {k : IntKind} {e : TypeId} {w : World} {g : Nat} {xs : List Int} (h : IB k e w g xs) (x : BX w) : IB k e x.w g xs := h.below x.below h.lt

/-- A slice of integers that was just built. -/
theorem rd_lit {k : IntKind} {e : TypeId} {w : World} {cs : Array Value} (xs : List Int) (h : cs = ia k xs) : Rd k (w.alloc (.cells cs e)) (some ⟨w.heap.size, 0, none⟩) xs := by
  subst h; exact (IB.new (k := k) (e := e) w xs).rd0

/-- A slice of one integer that was just built. -/
theorem rd_one (k : IntKind) (e : TypeId) (w : World) (v : Int) : Rd k (w.alloc (.cells #[.int k v] e)) (some ⟨w.heap.size, 0, none⟩) [v] := by
  refine .inr ⟨w.heap.size, 0, rfl, by simp, fun i hi => ?_⟩
  have : i = 0 := by simpa using hi
  subst this
  simp
end Go.Proofs.Ytngkhligjkcbmaa
