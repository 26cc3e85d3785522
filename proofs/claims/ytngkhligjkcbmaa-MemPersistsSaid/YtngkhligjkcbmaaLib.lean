/- Small lemmas on worlds, slices and blocks, used by all proofs of this seat. No conditions. -/
import Derived.WalkKit
import Derived.Handy
import Derived.Outline
import Derived.Lib.Hide
import Derived.Deep.QuietTactic
import Derived.BigQuiet
import Derived.Deep.Draws
import Derived.Deep.OwnRows
import Derived.Deep.LoopGhost
import Derived.Laws.CopyOwn
namespace Go.Proofs.Ytngkhligjkcbmaa
open Go.RowKit

theorem ret_int {k : IntKind} {a b : Int} (h : a = b) : Ending.returned (.int k a) = .returned (.int k b) := by rw [h]
theorem ret_bool {a b : Bool} (h : a = b) : Ending.returned (.bool a) = .returned (.bool b) := by rw [h]

/-- A slice of integers that is read: its address A and the numbers that its cells hold. -/
def Rd (k : IntKind) (w : World) (A : Option Addr) (xs : List Int) : Prop :=
  xs = [] ∨ ∃ b off, A = some ⟨b, off, none⟩ ∧ b < w.heap.size ∧ ∀ i (h : i < xs.length), w.cell? ⟨b, off + i, none⟩ = some (.int k xs[i])

section
variable {w w' : World} {A : Option Addr} {k : IntKind} {xs : List Int}
theorem Rd.nil : Rd k w A [] := .inl rfl
theorem Rd.at_ (h : Rd k w A xs) {i : Nat} (hi : i < xs.length) :
    ∃ b off, A = some ⟨b, off, none⟩ ∧ b < w.heap.size ∧ w.cell? ⟨b, off + i, none⟩ = some (.int k xs[i]) := by
  rcases h with h | ⟨b, off, h1, h2, h3⟩
  · subst h; simp at hi
  · exact ⟨b, off, h1, h2, h3 i hi⟩
theorem Rd.keep (h : Rd k w A xs) (hs : w.heap.size ≤ w'.heap.size) (hc : ∀ b o, b < w.heap.size → w'.cell? ⟨b, o, none⟩ = w.cell? ⟨b, o, none⟩) : Rd k w' A xs := by
  rcases h with h | ⟨b, off, h1, h2, h3⟩
  · exact .inl h
  · exact .inr ⟨b, off, h1, Nat.lt_of_lt_of_le h2 hs, fun i hi => (hc _ _ h2).trans (h3 i hi)⟩
theorem Rd.below (h : Rd k w A xs) (hb : Below w.heap.size w w') : Rd k w' A xs :=
  h.keep hb.size fun b o hlt => hb.cell (p := ⟨b, o, none⟩) hlt
theorem Rd.alloc (h : Rd k w A xs) (o : Obj) : Rd k (w.alloc o) A xs :=
  h.below ((Below.refl _ _).alloc (Nat.le_refl _) o)
theorem Rd.drew (h : Rd k w A xs) : Rd k w.drew A xs := h
theorem Rd.drewN (h : Rd k w A xs) (n : Nat) : Rd k (w.drewN n) A xs := h
end

theorem all_take_succ {α : Type} (p : α → Bool) (xs : List α) (k : Nat) (hk : k < xs.length) (h : (xs.take k).all p = true) (hx : p xs[k] = true) : (xs.take (k + 1)).all p = true := by
  rw [List.take_succ_eq_append_getElem hk, List.all_append, h]; simp [hx]
theorem all_false {α : Type} (p : α → Bool) (xs : List α) (k : Nat) (hk : k < xs.length) (hx : p xs[k] = false) : xs.all p = false := by
  rw [List.all_eq_false]; exact ⟨xs[k], List.getElem_mem hk, by simp [hx]⟩
theorem all_take_all {α : Type} (p : α → Bool) (xs : List α) (k : Nat) (hk : ¬ k < xs.length) (h : (xs.take k).all p = true) : xs.all p = true := by
  rwa [List.take_of_length_le (by omega)] at h

theorem eq_take_succ {α : Type} (xs ys : List α) (k : Nat) (hx : k < xs.length) (hy : k < ys.length) (h : xs.take k = ys.take k) (e : xs[k] = ys[k]) : xs.take (k + 1) = ys.take (k + 1) := by
  rw [List.take_succ_eq_append_getElem hx, List.take_succ_eq_append_getElem hy, h, e]
theorem ne_of_get {α : Type} (xs ys : List α) (k : Nat) (hx : k < xs.length) (hy : k < ys.length) (e : xs[k] ≠ ys[k]) : xs ≠ ys := by
  rintro rfl; exact e rfl

theorem bcell {W w1 : World} (hb : Below W.heap.size W w1) : (∀ b o, b < W.heap.size → w1.cell? ⟨b, o, none⟩ = W.cell? ⟨b, o, none⟩) ∧ (∀ b o, b < W.heap.size → w1.frozen? ⟨b, o, none⟩ = W.frozen? ⟨b, o, none⟩) :=
  ⟨fun b o h => hb.cell (p := ⟨b, o, none⟩) h, fun b o h => hb.frozen (p := ⟨b, o, none⟩) h⟩
theorem below_drewN {B : Nat} {a w : World} (h : Below B a w) (n : Nat) : Below B a (w.drewN n) := ⟨h.os, h.tape, h.output, h.size, h.block⟩

/-- One block. -/
def At (g b : Nat) : Prop := b = g
@[go_sem] theorem At_iff (g b : Nat) : At g b ↔ b = g := Iff.rfl
/-- What a call may have changed: the blocks in S, of those that were there. -/
structure Ch (S : Nat → Prop) (w w' : World) : Prop where
  os : w'.os = w.os
  tape : w'.tape = w.tape
  output : w'.output = w.output
  size : w.heap.size ≤ w'.heap.size
  block : ∀ k, k < w.heap.size → ¬ S k → w'.heap[k]? = w.heap[k]?

section
variable {S T : Nat → Prop} {w w' w'' : World}
theorem Ch.refl (S : Nat → Prop) (w : World) : Ch S w w := ⟨rfl, rfl, rfl, Nat.le_refl _, fun _ _ _ => rfl⟩
theorem Ch.trans (h : Ch S w w') (k : Ch T w' w'') (hT : ∀ b, T b → b < w.heap.size → S b) : Ch S w w'' :=
  ⟨k.os.trans h.os, k.tape.trans h.tape, k.output.trans h.output, Nat.le_trans h.size k.size,
    fun b hb hS => (k.block b (Nat.lt_of_lt_of_le hb h.size) (fun ht => hS (hT b ht hb))).trans (h.block b hb hS)⟩
theorem Ch.mono (h : Ch S w w') (hT : ∀ b, S b → b < w.heap.size → T b) : Ch T w w' :=
  ⟨h.os, h.tape, h.output, h.size, fun b hb hS => h.block b hb (fun ht => hS (hT b ht hb))⟩
theorem Ch.of_below (h : Below w.heap.size w w') : Ch S w w' := ⟨h.os, h.tape, h.output, h.size, fun b hb _ => h.block b hb⟩
theorem Ch.below (h : Ch (fun _ => False) w w') : Below w.heap.size w w' := ⟨h.os, h.tape, h.output, h.size, fun b hb => h.block b hb (fun hf => hf)⟩
theorem Ch.to_below {B : Nat} (h : Ch S w w') (hB : B ≤ w.heap.size) (hS : ∀ b, S b → B ≤ b) : Below B w w' :=
  ⟨h.os, h.tape, h.output, h.size, fun b hb => h.block b (Nat.lt_of_lt_of_le hb hB) (fun hs => by have := hS b hs; omega)⟩
theorem Ch.alloc (h : Ch S w w') (o : Obj) : Ch S w (w'.alloc o) :=
  ⟨h.os, h.tape, h.output, Nat.le_trans h.size (by simp), fun b hb hS => (Below.heap_alloc w' o b (Nat.lt_of_lt_of_le hb h.size)).trans (h.block b hb hS)⟩
theorem Ch.setCell (h : Ch S w w') {a : Addr} (ha : S a.block ∨ w.heap.size ≤ a.block) (u : Value) : Ch S w (w'.setCell a u) :=
  ⟨h.os, h.tape, h.output, by simpa using h.size, fun b hb hS => (Below.heap_setCell w' a u b (by
    rintro rfl
    rcases ha with ha | ha
    · exact hS ha
    · omega)).trans (h.block b hb hS)⟩
theorem Ch.set1 {g : Nat} (h : Ch (At g) w w') (i : Nat) (u : Value) : Ch (At g) w (w'.setCell ⟨g, i, none⟩ u) := h.setCell (a := ⟨g, i, none⟩) (.inl rfl) u
theorem Ch.drew (h : Ch S w w') : Ch S w w'.drew := ⟨h.os, h.tape, h.output, h.size, h.block⟩
theorem Ch.drewN (h : Ch S w w') (n : Nat) : Ch S w (w'.drewN n) := ⟨h.os, h.tape, h.output, h.size, h.block⟩
theorem Ch.cells (h : Ch S w w') : ∀ b o, b < w.heap.size → ¬ S b → w'.cell? ⟨b, o, none⟩ = w.cell? ⟨b, o, none⟩ :=
  fun b o hb hS => World.cell?_of_block (w := w) (a := ⟨b, o, none⟩) (h.block b hb hS)
theorem Ch.frozens (h : Ch S w w') : ∀ b o, b < w.heap.size → ¬ S b → w'.frozen? ⟨b, o, none⟩ = w.frozen? ⟨b, o, none⟩ :=
  fun b o hb hS => World.frozen?_of_block (w := w) (a := ⟨b, o, none⟩) (h.block b hb hS)
end

/-- The worlds in which nothing that was there in w has changed. -/
def BX (w : World) : Type := {w' : World // Below w.heap.size w w'}
def BX.w {w : World} (x : BX w) : World := x.1
instance (w : World) : Inhabited (BX w) := ⟨⟨w, Below.refl _ _⟩⟩
section
variable {w : World} (x : BX w)
theorem BX.below : Below w.heap.size w x.w := x.2
theorem BX.size : w.heap.size ≤ x.w.heap.size := x.2.size
@[go_sem] theorem BX.cell (b o : Nat) (h : b < w.heap.size) : x.w.cell? ⟨b, o, none⟩ = w.cell? ⟨b, o, none⟩ := x.2.cell (p := ⟨b, o, none⟩) h
@[go_sem] theorem BX.frozen (b o : Nat) (h : b < w.heap.size) : x.w.frozen? ⟨b, o, none⟩ = w.frozen? ⟨b, o, none⟩ := x.2.frozen (p := ⟨b, o, none⟩) h
@[go_sem] theorem BX.lt_size {n : Nat} (h : n < w.heap.size) : n < x.w.heap.size := Nat.lt_of_lt_of_le h x.size
@[go_sem] theorem BX.ne_size {n : Nat} (h : n < w.heap.size) : (n = x.w.heap.size) = False := by
  have := x.size
  simp; omega
@[go_sem] theorem BX.cell_drewN {n : Nat} (x : BX (w.drewN n)) (b o : Nat) (h : b < w.heap.size) : x.w.cell? ⟨b, o, none⟩ = w.cell? ⟨b, o, none⟩ := x.cell b o h
@[go_sem] theorem BX.frozen_drewN {n : Nat} (x : BX (w.drewN n)) (b o : Nat) (h : b < w.heap.size) : x.w.frozen? ⟨b, o, none⟩ = w.frozen? ⟨b, o, none⟩ := x.frozen b o h
@[go_sem] theorem BX.lt_drewN {n m : Nat} (x : BX (w.drewN n)) (h : m < w.heap.size) : m < x.w.heap.size := x.lt_size h
@[go_sem] theorem BX.cell_drew (x : BX w.drew) (b o : Nat) (h : b < w.heap.size) : x.w.cell? ⟨b, o, none⟩ = w.cell? ⟨b, o, none⟩ := x.cell b o h
@[go_sem] theorem BX.frozen_drew (x : BX w.drew) (b o : Nat) (h : b < w.heap.size) : x.w.frozen? ⟨b, o, none⟩ = w.frozen? ⟨b, o, none⟩ := x.frozen b o h
@[go_sem] theorem BX.lt_drew {m : Nat} (x : BX w.drew) (h : m < w.heap.size) : m < x.w.heap.size := x.lt_size h
theorem bx_of {w w' : World} (h : Below w.heap.size w w') : ∃ x : BX w, w' = x.w := ⟨⟨w', h⟩, rfl⟩
theorem bx_call {P : Program} {f : FuncId} {args : Array Value} {v : Value} {w : World} {x : BX w} (h : Calls P f args x.w fun e w' => e = .returned v ∧ Below x.w.heap.size x.w w') :
    Calls P f args x.w fun e w'' => e = .returned v ∧ ∃ y : BX w, w'' = y.w :=
  h.mono fun _ _ ⟨he, hb⟩ => ⟨he, ⟨_, x.below.trans (hb.mono x.size)⟩, rfl⟩
theorem bx_callq {P : Program} {f : FuncId} {args : Array Value} {v : Value} {w : World} {x : BX w} (h : Calls P f args x.w fun e w' => e = .returned v ∧ ∃ n, w' = x.w.drewN n) :
    Calls P f args x.w fun e w'' => e = .returned v ∧ ∃ y : BX w, w'' = y.w :=
  h.mono fun _ _ ⟨he, n, hb⟩ => ⟨he, ⟨x.w.drewN n, below_drewN x.below n⟩, hb⟩
theorem bx_calle {P : Program} {f : FuncId} {args : Array Value} {v : Value} {w : World} {x : BX w} (h : Calls P f args x.w fun e w' => e = .returned v ∧ x.w = w') :
    Calls P f args x.w fun e w'' => e = .returned v ∧ ∃ y : BX w, w'' = y.w :=
  h.mono fun _ _ ⟨he, hb⟩ => ⟨he, x, hb.symm⟩
end
section
variable {a w : World}
theorem bl_alloc (h : Below a.heap.size a w) (o : Obj) : Below a.heap.size a (w.alloc o) := h.alloc h.size o
theorem bl_drew (h : Below a.heap.size a w) : Below a.heap.size a w.drew := h.drew
theorem bl_drewN (h : Below a.heap.size a w) (n : Nat) : Below a.heap.size a (w.drewN n) := below_drewN h n
theorem bl_bx (h : Below a.heap.size a w) (x : BX w) : Below a.heap.size a x.w := h.trans (x.below.mono h.size)
theorem bl_set (h : Below a.heap.size a w) {p : Addr} (hp : a.heap.size ≤ p.block) (u : Value) : Below a.heap.size a (w.setCell p u) := h.setCell hp u
theorem bl_ch {S : Nat → Prop} {w' : World} (h : Below a.heap.size a w) (k : Ch S w w') (hS : ∀ b, S b → a.heap.size ≤ b) : Below a.heap.size a w' := h.trans (k.to_below h.size hS)
end

/-- The worlds in which of what was there in w only blocks of S have changed. -/
def CX (S : Nat → Prop) (w : World) : Type := {w' : World // Ch S w w'}
def CX.w {S : Nat → Prop} {w : World} (x : CX S w) : World := x.1
instance (S : Nat → Prop) (w : World) : Inhabited (CX S w) := ⟨⟨w, Ch.refl _ _⟩⟩
section
variable {S : Nat → Prop} {w : World} (x : CX S w)
theorem CX.ch : Ch S w x.w := x.2
theorem CX.size : w.heap.size ≤ x.w.heap.size := x.2.size
@[go_sem] theorem CX.cell (b o : Nat) (h : b < w.heap.size) (hS : ¬ S b) : x.w.cell? ⟨b, o, none⟩ = w.cell? ⟨b, o, none⟩ := x.2.cells b o h hS
@[go_sem] theorem CX.frozen (b o : Nat) (h : b < w.heap.size) (hS : ¬ S b) : x.w.frozen? ⟨b, o, none⟩ = w.frozen? ⟨b, o, none⟩ := x.2.frozens b o h hS
@[go_sem] theorem CX.lt_size {n : Nat} (h : n < w.heap.size) : n < x.w.heap.size := Nat.lt_of_lt_of_le h x.size
@[go_sem] theorem CX.ne_size {n : Nat} (h : n < w.heap.size) : (n = x.w.heap.size) = False := by
  have := x.size
  simp; omega
@[go_sem] theorem CX.cell_drewN {n : Nat} (x : CX S (w.drewN n)) (b o : Nat) (h : b < w.heap.size) (hS : ¬ S b) : x.w.cell? ⟨b, o, none⟩ = w.cell? ⟨b, o, none⟩ := x.cell b o h hS
@[go_sem] theorem CX.frozen_drewN {n : Nat} (x : CX S (w.drewN n)) (b o : Nat) (h : b < w.heap.size) (hS : ¬ S b) : x.w.frozen? ⟨b, o, none⟩ = w.frozen? ⟨b, o, none⟩ := x.frozen b o h hS
@[go_sem] theorem CX.lt_drewN {n m : Nat} (x : CX S (w.drewN n)) (h : m < w.heap.size) : m < x.w.heap.size := x.lt_size h
theorem cx_of {w' : World} (h : Ch S w w') : ∃ x : CX S w, w' = x.w := ⟨⟨w', h⟩, rfl⟩
theorem ch_bx {a : World} (h : Ch S a w) (x : BX w) : Ch S a x.w := h.trans (Ch.of_below (S := S) x.below) (fun _ h _ => h)
theorem ch_cx {a : World} {T : Nat → Prop} (h : Ch S a w) (x : CX T w) (hT : ∀ b, T b → b < a.heap.size → S b) : Ch S a x.w := h.trans x.ch hT
end

/-- A region that draws its order, whose operations read and whose calls change nothing that was there. -/
theorem wp_region_bx {P : Program} {id : Nat} {Q : Exit → Act → World → Prop} {a : Act} {w : World} {l : List Oper} (hm : P.follows .mixedOrders = true) (hB : Region.lexB .any l.toArray = true)
    (h : wpQuiet P l.toArray (fun w' => ∃ x : BX w, w' = x.w) (fun a' => ∀ w', (∃ x : BX w, w' = x.w) → Q .normal a' w') l a) : (Code.region id l.toArray true).wp P Q a w :=
  wp_region_quiet (C := fun w' => ∃ x : BX w, w' = x.w) hm hB ⟨⟨w.drew, (Below.refl _ _).drew⟩, rfl⟩ (by simpa using h)

/-- The cells of a list of integers. -/
def ia (k : IntKind) (xs : List Int) : Array Value := (xs.map (Value.int k)).toArray
@[go_sem] theorem ia_set (k : IntKind) (xs : List Int) (i : Nat) (v : Int) : (ia k xs).setIfInBounds i (.int k v) = ia k (xs.set i v) := by
  simp [ia, List.map_set]
@[go_sem] theorem ia_getq (k : IntKind) (xs : List Int) (i : Nat) : (ia k xs)[i]? = xs[i]?.map (Value.int k) := by
  simp [ia]
theorem ia_get (k : IntKind) (xs : List Int) {i : Nat} (h : i < xs.length) : (ia k xs)[i]? = some (.int k xs[i]) := by
  simp [ia, h]
/-- A block of integers, known whole. -/
def IB (k : IntKind) (e : TypeId) (w : World) (g : Nat) (xs : List Int) : Prop := w.heap[g]? = some (.cells (ia k xs) e (0, 0))

section
variable {k : IntKind} {e : TypeId} {w w' : World} {g : Nat} {xs : List Int}
theorem IB.lt (h : IB k e w g xs) : g < w.heap.size := by
  rcases Nat.lt_or_ge g w.heap.size with hlt | hge
  · exact hlt
  · unfold IB at h; rw [Array.getElem?_eq_none hge] at h; cases h
theorem IB.cell (h : IB k e w g xs) {i : Nat} (hi : i < xs.length) : w.cell? ⟨g, i, none⟩ = some (.int k xs[i]) := by
  unfold IB at h
  simp [World.cell?, h, hi, ia]
theorem IB.frozen (h : IB k e w g xs) (i : Nat) : w.frozen? ⟨g, i, none⟩ = false := by
  unfold IB at h
  simp [World.frozen?, h]
theorem IB.set (h : IB k e w g xs) (i : Nat) (v : Int) : IB k e (w.setCell ⟨g, i, none⟩ (.int k v)) g (xs.set i v) := by
  unfold IB at h ⊢
  simp [World.setCell, Array.getElem?_modify, h, ia_set]
theorem IB.keep (h : IB k e w g xs) (hb : w'.heap[g]? = w.heap[g]?) : IB k e w' g xs := hb.trans h
theorem IB.far (h : IB k e w g xs) {p : Addr} (hp : g ≠ p.block) (u : Value) : IB k e (w.setCell p u) g xs := (Below.heap_setCell w p u g hp).trans h
theorem IB.alloc (h : IB k e w g xs) (o : Obj) : IB k e (w.alloc o) g xs := (Below.heap_alloc w o g h.lt).trans h
theorem IB.ch {S : Nat → Prop} (h : IB k e w g xs) (hc : Ch S w w') (hS : ¬ S g) : IB k e w' g xs := (hc.block g h.lt hS).trans h
theorem IB.below {B : Nat} (h : IB k e w g xs) (hb : Below B w w') (hg : g < B) : IB k e w' g xs := (hb.block g hg).trans h
theorem IB.drewN (h : IB k e w g xs) (n : Nat) : IB k e (w.drewN n) g xs := h
theorem IB.new (w : World) (xs : List Int) : IB k e (w.alloc (.cells (ia k xs) e)) w.heap.size xs := heap_alloc_new w _
theorem IB.rd (h : IB k e w g xs) (off n : Nat) : Rd k w (some ⟨g, off, none⟩) ((xs.drop off).take n) := by
  refine .inr ⟨g, off, rfl, h.lt, fun i hi => ?_⟩
  have : off + i < xs.length := by simp at hi; omega
  rw [h.cell this]
  simp
theorem IB.rd0 (h : IB k e w g xs) : Rd k w (some ⟨g, 0, none⟩) xs := by
  have := h.rd 0 xs.length
  simpa using this
end

theorem Rd.take {k : IntKind} {w : World} {A : Option Addr} {xs : List Int} (h : Rd k w A xs) (n : Nat) : Rd k w A (xs.take n) := by
  rcases h with rfl | ⟨b, off, h1, h2, h3⟩
  · left; simp
  · refine .inr ⟨b, off, h1, h2, fun i hi => ?_⟩
    simp only [List.length_take] at hi
    rw [h3 i (by omega), List.getElem_take]
theorem Rd.drop {k : IntKind} {w : World} {b off : Nat} {xs : List Int} (h : Rd k w (some ⟨b, off, none⟩) xs) (n : Nat) : Rd k w (some ⟨b, off + n, none⟩) (xs.drop n) := by
  rcases h with rfl | ⟨b', off', h1, h2, h3⟩
  · left; simp
  · injection h1 with h1
    injection h1 with h1 h1'
    subst h1 h1'
    refine .inr ⟨b, off + n, rfl, h2, fun i hi => ?_⟩
    simp only [List.length_drop] at hi
    rw [Nat.add_assoc, h3 (n + i) (by omega), List.getElem_drop]

theorem ch_setRow {w : World} (g : Nat) (cs : Array Value) : Ch (At g) w (w.setRow g cs) :=
  ⟨rfl, rfl, rfl, by simp, fun k _ hS => setRow_other w g k cs (fun h => hS h)⟩

theorem map_splice {α β : Type} (f : α → β) (L : List α) (off : Nat) (cs : List α) : (splice L off cs).map f = splice (L.map f) off (cs.map f) := by
  simp [splice]

/-- copy between slices of integers: dst in a block that is known whole. -/
theorem run_copy_ints {P : Program} (w : World) (dT sT ty elem : TypeId) (hu : P.underlying dT = some (.slice elem)) (hs : (P.info? elem).map (·.size) = some 1) (k : IntKind) (e : TypeId)
    (dp sp : Option Addr) (dLen dCap sLen sCap : Nat) (g off : Nat) (xs ys : List Int) (hb : IB k e w g xs) (hn : ys.length = Nat.min sLen dLen) (hd : 0 < ys.length → dp = some ⟨g, off, none⟩)
    (hfit : off + ys.length ≤ xs.length) (hsrc : Rd k w sp ys) :
    ∃ w', (Builtin.copy_ #[dT, sT] ty #[.slice dp dLen dCap, .slice sp sLen sCap]).run P w = .ok (goInt ys.length) w' ∧ IB k e w' g (splice xs off ys) ∧ Ch (At g) w w' := by
  rcases hsrc with rfl | ⟨b, o, rfl, hlt, hc⟩
  · refine ⟨w, ?_, by simpa [splice] using hb, Ch.refl _ _⟩
    exact run_copy_none w dT sT ty elem dp sp dLen dCap sLen sCap hu hs (by simpa using hn.symm)
  · by_cases h0 : 0 < ys.length
    · obtain rfl := hd h0
      unfold IB ia at hb
      have hr := run_copy_row P w dT sT ty elem g off dLen dCap ⟨b, o, none⟩ sLen sCap (xs.map (Value.int k)).toArray e (ys.map (Value.int k)) hu hs hb (by simpa using hn)
        (fun j v hv => by
          simp only [List.getElem?_map, Option.map_eq_some_iff] at hv
          obtain ⟨y, hy, rfl⟩ := hv
          obtain ⟨hj, rfl⟩ := List.getElem?_eq_some_iff.1 hy
          have : (⟨b, o, none⟩ : Addr).add j = ⟨b, o + j, none⟩ := by unfold Addr.add; split <;> simp_all
          rw [this]; exact hc j hj) (by simpa using hfit)
        (fun v hv => by
          obtain ⟨y, _, rfl⟩ := List.mem_map.1 hv
          rfl)
      refine ⟨_, by rw [hr, List.length_map], ?_, ch_setRow g _⟩
      have := setRow_heap w g _ ((xs.map (Value.int k)).toArray.toList.take off ++ ys.map (Value.int k) ++ (xs.map (Value.int k)).toArray.toList.drop (off + (ys.map (Value.int k)).length)).toArray e (0, 0) hb
      unfold IB ia
      rw [map_splice]
      simpa [splice] using this
    · have : ys = [] := List.eq_nil_of_length_eq_zero (by omega)
      subst this
      refine ⟨w, ?_, by simpa [splice] using hb, Ch.refl _ _⟩
      exact run_copy_none w dT sT ty elem dp _ dLen dCap sLen sCap hu hs (by simpa using hn.symm)

theorem wpList_copy_ints {P : Program} {w : World} {ops : Array Oper} {rest : List Oper} {o : Oper} {a : Act} {Q : Exit → Act → World → Prop} (hgd : o.guard = none) (d s : Operand) (dT sT : TypeId)
    (ho : o.op = .call { callee := .builtin .copy, args := #[d, s], argTypes := #[dT, sT] }) (elem : TypeId) (hu : P.underlying dT = some (.slice elem)) (hs : (P.info? elem).map (·.size) = some 1) (k : IntKind) (e : TypeId)
    (dp sp : Option Addr) (dLen dCap sLen sCap : Nat) (hde : a.eval d = .slice dp dLen dCap) (hse : a.eval s = .slice sp sLen sCap)
    (g off : Nat) (xs ys : List Int) (hb : IB k e w g xs) (hn : ys.length = Nat.min sLen dLen) (hd : 0 < ys.length → dp = some ⟨g, off, none⟩)
    (hfit : off + ys.length ≤ xs.length) (hsrc : Rd k w sp ys)
    (h : ∀ w', Hid (IB k e w' g (splice xs off ys)) → Ch (At g) w w' → wpList P ops Q rest (a.put o.dst (goInt ys.length)) w') : wpList P ops Q (o :: rest) a w := by
  refine wpList_plain hgd fun K hK => ?_
  obtain ⟨w', hrun, h1, h2⟩ := run_copy_ints (P := P) w dT sT o.type elem hu hs k e dp sp dLen dCap sLen sCap g off xs ys hb hn hd hfit hsrc
  unfold Oper.wp
  simp [execOp, ho, resolve, invoke, builtin, hde, hse, hrun, Result.andThen]
  exact hK _ _ (h w' h1 h2)

theorem step_copy_ints {P : Program} {w : World} {ops : Array Oper} {o : Oper} {a : Act} {K : Act → World → Prop} {Q : Exit → Act → World → Prop} {E : Prop} (hgd : o.guard = none) (d s : Operand) (dT sT : TypeId)
    (ho : o.op = .call { callee := .builtin .copy, args := #[d, s], argTypes := #[dT, sT] }) (elem : TypeId) (hu : P.underlying dT = some (.slice elem)) (hs : (P.info? elem).map (·.size) = some 1) (k : IntKind) (e : TypeId)
    (dp sp : Option Addr) (dLen dCap sLen sCap : Nat) (hde : a.eval d = .slice dp dLen dCap) (hse : a.eval s = .slice sp sLen sCap)
    (g off : Nat) (xs ys : List Int) (hb : IB k e w g xs) (hn : ys.length = Nat.min sLen dLen) (hd : 0 < ys.length → dp = some ⟨g, off, none⟩)
    (hfit : off + ys.length ≤ xs.length) (hsrc : Rd k w sp ys)
    (h : ∀ w', Hid (IB k e w' g (splice xs off ys)) → Ch (At g) w w' → K (a.put o.dst (goInt ys.length)) w') :
    if Region.wanted o (yielded ops a.tmps) = true then Oper.wp P o a w K Q else E := by
  have hw : Region.wanted o (yielded ops a.tmps) = true := by simp [Region.wanted, hgd]
  rw [if_pos hw]
  obtain ⟨w', hrun, h1, h2⟩ := run_copy_ints (P := P) w dT sT o.type elem hu hs k e dp sp dLen dCap sLen sCap g off xs ys hb hn hd hfit hsrc
  unfold Oper.wp
  simp [execOp, ho, resolve, invoke, builtin, hde, hse, hrun, Result.andThen]
  exact h w' h1 h2

/-- The string whose bytes are these numbers. -/
def strOf (ns : List Int) : ByteArray := ⟨(ns.map fun n => UInt8.ofNat n.toNat).toArray⟩
theorem push_strOf (ns : List Int) (s : ByteArray) : ns.foldl (fun r n => r.push (UInt8.ofNat n.toNat)) s = ⟨s.data ++ (ns.map fun n => UInt8.ofNat n.toNat).toArray⟩ := by
  induction ns generalizing s with
  | nil => simp
  | cons n ns ih =>
    rw [List.foldl_cons, ih]
    congr 1
    simp [ByteArray.push]
theorem run_bytes_str {P : Program} (w : World) (src dst e : TypeId) (hs : P.underlying src = some (.slice e)) (he : P.underlying e = some (.int .u8)) (hd : P.underlying dst = some .string)
    (g off n c : Nat) (ns : List Int) (hn : ns.length = n) (h : Rd .u8 w (some ⟨g, off, none⟩) ns) :
    (convert src dst (.slice (some ⟨g, off, none⟩) n c)).run P w = .ok (.string (strOf ns)) w := by
  subst hn
  rw [run_convert_bytes_string w src dst e _ _ _ hs he hd]
  have hl : (loadCells ⟨g, off, none⟩ ns.length).run P w = .ok (ns.map (Value.int .u8)).toArray w := by
    have := run_loadCells_list (P := P) w ⟨g, off, none⟩ (ns.map (Value.int .u8)) (fun j v hv => by
      simp only [List.getElem?_map, Option.map_eq_some_iff] at hv
      obtain ⟨y, hy, rfl⟩ := hv
      obtain ⟨hj, rfl⟩ := List.getElem?_eq_some_iff.1 hy
      have h1 : (⟨g, off, none⟩ : Addr).add j = ⟨g, off + j, none⟩ := by unfold Addr.add; split <;> simp_all
      rw [h1]
      obtain ⟨b', off', h2, _, h3⟩ := h.at_ hj
      injection h2 with h2
      injection h2 with h2 h2'
      subst h2 h2'
      exact h3)
    simpa using this
  rw [run_bytesToString w _ _ _ ns hl, push_strOf]
  simp [strOf]

/-- make of a slice of integers, whatever its length. -/
theorem run_make_ints {P : Program} (t e : TypeId) (k kl kc : IntKind) (n : Nat) (ht : P.underlying t = some (.slice e)) (by_ : Nat) (hinfo : (P.info? e).map (fun i => (i.zero, i.size, i.bytes)) = some (some (.int k 0), 1, by_))
    (hby : by_ ≤ 8) (hn : n ≤ 35184372088832) (w : World) :
    (Instr.makeSlice t (.int kl (n : Int)) (.int kc (n : Int))).run P w = .ok (.slice (some ⟨w.heap.size, 0, none⟩) n n) (w.alloc (.cells (ia k (List.replicate n (0 : Int))) e)) := by
  cases hi : P.info? e with
  | none => rw [hi] at hinfo; cases hinfo
  | some i =>
    rw [hi] at hinfo
    simp only [Option.map_some, Option.some.injEq, Prod.mk.injEq] at hinfo
    obtain ⟨hz, hs, hb⟩ := hinfo
    have hr := run_make (P := P) w t e i (.int k 0) ht hi hz kl kc n n (by omega) (by omega) (by rw [hb]; have h9 : by_ * n ≤ 8 * n := Nat.mul_le_mul_right n hby; have : ((by_ * n : Nat) : Int) = (by_ : Int) * (n : Int) := Int.natCast_mul _ _; omega) (by omega)
    rw [hr, hs]
    simp only [Int.toNat_natCast, Nat.mul_one]
    congr 3
    congr 1
    simp only [madeCells, Value.cells, ia, List.map_replicate]
    apply Array.ext
    · simp
    · intro i h1 h2
      simp [Nat.mod_one]


theorem run_make_z {P : Program} (t e : TypeId) (k kl kc : IntKind) (z : Int) (n : Nat) (hz : z = (n : Int)) (ht : P.underlying t = some (.slice e)) (by_ : Nat) (hinfo : (P.info? e).map (fun i => (i.zero, i.size, i.bytes)) = some (some (.int k 0), 1, by_))
    (hby : by_ ≤ 8) (hn : n ≤ 35184372088832) (w : World) :
    (Instr.makeSlice t (.int kl z) (.int kc z)).run P w = .ok (.slice (some ⟨w.heap.size, 0, none⟩) n n) (w.alloc (.cells (ia k (List.replicate n (0 : Int))) e)) := by
  subst hz; exact run_make_ints t e k kl kc n ht by_ hinfo hby hn w
end Go.Proofs.Ytngkhligjkcbmaa
