/- Bytes, lists in memory, the memory of a device (merged). -/
import Derived.WalkKit
import Derived.Handy
import Derived.Outline
import Derived.Lib.Hide
import Derived.Deep.QuietTactic
import Derived.BigQuiet
import Derived.Deep.Draws
import Derived.Deep.OwnRows
import Derived.Deep.LoopGhost
import Derived.Laws.CopyOwn
import Derived.Laws.BitsAllLaws
import Derived.Maps.AppendAt
import Derived.Deep.AppendLies
import Derived.RegionTactic
import Derived.OwnWalk
import Derived.ArgAppend
import Derived.Test.YtaefkelaffijbaaGreatDoorProg
import Derived.Maps.OwnSet
import Derived.Maps.OwnOps
import Derived.Shelf.Bits.Mul64
namespace Go.Proofs.YtaefkelaffijbaaGreatDoor
open Go.RowKit
theorem ret_int {k : IntKind} {a b : Int} (h : a = b) : Ending.returned (.int k a) = .returned (.int k b) := by rw [h]
/-- A slice of integers that is read: its address A and the numbers that its cells hold. -/
def Rd (k : IntKind) (w : World) (A : Option Addr) (xs : List Int) : Prop :=
 xs = [] ∨ ∃ b off, A = some ⟨b, off, none⟩ ∧ b < w.heap.size ∧ ∀ i (h : i < xs.length), w.cell? ⟨b, off + i, none⟩ = some (.int k xs[i])

section
variable {w w' : World} {A : Option Addr} {k : IntKind} {xs : List Int}
theorem Rd.nil : Rd k w A [] := .inl rfl
theorem Rd.at_ (h : Rd k w A xs) {i : Nat} (hi : i < xs.length) :
 ∃ b off, A = some ⟨b, off, none⟩ ∧ b < w.heap.size ∧ w.cell? ⟨b, off + i, none⟩ = some (.int k xs[i]) := by
 rcases h with h | ⟨b, off, h1, h2, h3⟩
 · subst h; simp at hi
 · exact ⟨b, off, h1, h2, h3 i hi⟩
theorem Rd.keep (h : Rd k w A xs) (hs : w.heap.size ≤ w'.heap.size) (hc : ∀ b o, b < w.heap.size → w'.cell? ⟨b, o, none⟩ = w.cell? ⟨b, o, none⟩) : Rd k w' A xs := by
 rcases h with h | ⟨b, off, h1, h2, h3⟩
 · exact .inl h
 · exact .inr ⟨b, off, h1, Nat.lt_of_lt_of_le h2 hs, fun i hi => (hc _ _ h2).trans (h3 i hi)⟩
theorem Rd.below (h : Rd k w A xs) (hb : Below w.heap.size w w') : Rd k w' A xs :=
 h.keep hb.size fun b o hlt => hb.cell (p := ⟨b, o, none⟩) hlt
theorem Rd.alloc (h : Rd k w A xs) (o : Obj) : Rd k (w.alloc o) A xs :=
 h.below ((Below.refl _ _).alloc (Nat.le_refl _) o)
theorem Rd.drew (h : Rd k w A xs) : Rd k w.drew A xs := h
theorem Rd.drewN (h : Rd k w A xs) (n : Nat) : Rd k (w.drewN n) A xs := h
end

theorem all_take_succ {α : Type} (p : α → Bool) (xs : List α) (k : Nat) (hk : k < xs.length) (h : (xs.take k).all p = true) (hx : p xs[k] = true) : (xs.take (k + 1)).all p = true := by
 rw [List.take_succ_eq_append_getElem hk, List.all_append, h]; simp [hx]
theorem all_false {α : Type} (p : α → Bool) (xs : List α) (k : Nat) (hk : k < xs.length) (hx : p xs[k] = false) : xs.all p = false := by
 rw [List.all_eq_false]; exact ⟨xs[k], List.getElem_mem hk, by simp [hx]⟩
theorem all_take_all {α : Type} (p : α → Bool) (xs : List α) (k : Nat) (hk : ¬ k < xs.length) (h : (xs.take k).all p = true) : xs.all p = true := by
 rwa [List.take_of_length_le (by omega)] at h

theorem below_drewN {B : Nat} {a w : World} (h : Below B a w) (n : Nat) : Below B a (w.drewN n) := ⟨h.os, h.tape, h.output, h.size, h.block⟩

/-- One block. -/
def At (g b : Nat) : Prop := b = g
@[go_sem] theorem At_iff (g b : Nat) : At g b ↔ b = g := Iff.rfl
/-- What a call may have changed: the blocks in S, of those that were there. -/
structure Ch (S : Nat → Prop) (w w' : World) : Prop where
 os : w'.os = w.os
 tape : w'.tape = w.tape
 output : w'.output = w.output
 size : w.heap.size ≤ w'.heap.size
 block : ∀ k, k < w.heap.size → ¬ S k → w'.heap[k]? = w.heap[k]?

section
variable {S T : Nat → Prop} {w w' w'' : World}
theorem Ch.refl (S : Nat → Prop) (w : World) : Ch S w w := ⟨rfl, rfl, rfl, Nat.le_refl _, fun _ _ _ => rfl⟩
theorem Ch.trans (h : Ch S w w') (k : Ch T w' w'') (hT : ∀ b, T b → b < w.heap.size → S b) : Ch S w w'' :=
 ⟨k.os.trans h.os, k.tape.trans h.tape, k.output.trans h.output, Nat.le_trans h.size k.size,
  fun b hb hS => (k.block b (Nat.lt_of_lt_of_le hb h.size) (fun ht => hS (hT b ht hb))).trans (h.block b hb hS)⟩
theorem Ch.mono (h : Ch S w w') (hT : ∀ b, S b → b < w.heap.size → T b) : Ch T w w' :=
 ⟨h.os, h.tape, h.output, h.size, fun b hb hS => h.block b hb (fun ht => hS (hT b ht hb))⟩
theorem Ch.of_below (h : Below w.heap.size w w') : Ch S w w' := ⟨h.os, h.tape, h.output, h.size, fun b hb _ => h.block b hb⟩
theorem Ch.below (h : Ch (fun _ => False) w w') : Below w.heap.size w w' := ⟨h.os, h.tape, h.output, h.size, fun b hb => h.block b hb (fun hf => hf)⟩
theorem Ch.to_below {B : Nat} (h : Ch S w w') (hB : B ≤ w.heap.size) (hS : ∀ b, S b → B ≤ b) : Below B w w' :=
 ⟨h.os, h.tape, h.output, h.size, fun b hb => h.block b (Nat.lt_of_lt_of_le hb hB) (fun hs => by have := hS b hs; omega)⟩
theorem Ch.alloc (h : Ch S w w') (o : Obj) : Ch S w (w'.alloc o) :=
 ⟨h.os, h.tape, h.output, Nat.le_trans h.size (by simp), fun b hb hS => (Below.heap_alloc w' o b (Nat.lt_of_lt_of_le hb h.size)).trans (h.block b hb hS)⟩
theorem Ch.setCell (h : Ch S w w') {a : Addr} (ha : S a.block ∨ w.heap.size ≤ a.block) (u : Value) : Ch S w (w'.setCell a u) :=
 ⟨h.os, h.tape, h.output, by simpa using h.size, fun b hb hS => (Below.heap_setCell w' a u b (by
  rintro rfl
  rcases ha with ha | ha
  · exact hS ha
  · omega)).trans (h.block b hb hS)⟩
theorem Ch.set1 {g : Nat} (h : Ch (At g) w w') (i : Nat) (u : Value) : Ch (At g) w (w'.setCell ⟨g, i, none⟩ u) := h.setCell (a := ⟨g, i, none⟩) (.inl rfl) u
theorem Ch.drew (h : Ch S w w') : Ch S w w'.drew := ⟨h.os, h.tape, h.output, h.size, h.block⟩
theorem Ch.drewN (h : Ch S w w') (n : Nat) : Ch S w (w'.drewN n) := ⟨h.os, h.tape, h.output, h.size, h.block⟩
theorem Ch.cells (h : Ch S w w') : ∀ b o, b < w.heap.size → ¬ S b → w'.cell? ⟨b, o, none⟩ = w.cell? ⟨b, o, none⟩ :=
 fun b o hb hS => World.cell?_of_block (w := w) (a := ⟨b, o, none⟩) (h.block b hb hS)
theorem Ch.frozens (h : Ch S w w') : ∀ b o, b < w.heap.size → ¬ S b → w'.frozen? ⟨b, o, none⟩ = w.frozen? ⟨b, o, none⟩ :=
 fun b o hb hS => World.frozen?_of_block (w := w) (a := ⟨b, o, none⟩) (h.block b hb hS)
end

/-- The worlds in which nothing that was there in w has changed. -/
def BX (w : World) : Type := {w' : World // Below w.heap.size w w'}
def BX.w {w : World} (x : BX w) : World := x.1
instance (w : World) : Inhabited (BX w) := ⟨⟨w, Below.refl _ _⟩⟩
section
variable {w : World} (x : BX w)
theorem BX.below : Below w.heap.size w x.w := x.2
theorem BX.size : w.heap.size ≤ x.w.heap.size := x.2.size
@[go_sem] theorem BX.cell (b o : Nat) (h : b < w.heap.size) : x.w.cell? ⟨b, o, none⟩ = w.cell? ⟨b, o, none⟩ := x.2.cell (p := ⟨b, o, none⟩) h
@[go_sem] theorem BX.frozen (b o : Nat) (h : b < w.heap.size) : x.w.frozen? ⟨b, o, none⟩ = w.frozen? ⟨b, o, none⟩ := x.2.frozen (p := ⟨b, o, none⟩) h
@[go_sem] theorem BX.lt_size {n : Nat} (h : n < w.heap.size) : n < x.w.heap.size := Nat.lt_of_lt_of_le h x.size
@[go_sem] theorem BX.ne_size {n : Nat} (h : n < w.heap.size) : (n = x.w.heap.size) = False := by
 have := x.size
 simp; omega
@[go_sem] theorem BX.cell_drewN {n : Nat} (x : BX (w.drewN n)) (b o : Nat) (h : b < w.heap.size) : x.w.cell? ⟨b, o, none⟩ = w.cell? ⟨b, o, none⟩ := x.cell b o h
@[go_sem] theorem BX.frozen_drewN {n : Nat} (x : BX (w.drewN n)) (b o : Nat) (h : b < w.heap.size) : x.w.frozen? ⟨b, o, none⟩ = w.frozen? ⟨b, o, none⟩ := x.frozen b o h
@[go_sem] theorem BX.lt_drewN {n m : Nat} (x : BX (w.drewN n)) (h : m < w.heap.size) : m < x.w.heap.size := x.lt_size h
@[go_sem] theorem BX.cell_drew (x : BX w.drew) (b o : Nat) (h : b < w.heap.size) : x.w.cell? ⟨b, o, none⟩ = w.cell? ⟨b, o, none⟩ := x.cell b o h
@[go_sem] theorem BX.frozen_drew (x : BX w.drew) (b o : Nat) (h : b < w.heap.size) : x.w.frozen? ⟨b, o, none⟩ = w.frozen? ⟨b, o, none⟩ := x.frozen b o h
@[go_sem] theorem BX.lt_drew {m : Nat} (x : BX w.drew) (h : m < w.heap.size) : m < x.w.heap.size := x.lt_size h
theorem bx_of {w w' : World} (h : Below w.heap.size w w') : ∃ x : BX w, w' = x.w := ⟨⟨w', h⟩, rfl⟩
theorem bx_call {P : Program} {f : FuncId} {args : Array Value} {v : Value} {w : World} {x : BX w} (h : Calls P f args x.w fun e w' => e = .returned v ∧ Below x.w.heap.size x.w w') :
 Calls P f args x.w fun e w'' => e = .returned v ∧ ∃ y : BX w, w'' = y.w :=
 h.mono fun _ _ ⟨he, hb⟩ => ⟨he, ⟨_, x.below.trans (hb.mono x.size)⟩, rfl⟩
end
section
variable {a w : World}
theorem bl_alloc (h : Below a.heap.size a w) (o : Obj) : Below a.heap.size a (w.alloc o) := h.alloc h.size o
theorem bl_drew (h : Below a.heap.size a w) : Below a.heap.size a w.drew := h.drew
theorem bl_drewN (h : Below a.heap.size a w) (n : Nat) : Below a.heap.size a (w.drewN n) := below_drewN h n
theorem bl_bx (h : Below a.heap.size a w) (x : BX w) : Below a.heap.size a x.w := h.trans (x.below.mono h.size)
theorem bl_set (h : Below a.heap.size a w) {p : Addr} (hp : a.heap.size ≤ p.block) (u : Value) : Below a.heap.size a (w.setCell p u) := h.setCell hp u
theorem bl_ch {S : Nat → Prop} {w' : World} (h : Below a.heap.size a w) (k : Ch S w w') (hS : ∀ b, S b → a.heap.size ≤ b) : Below a.heap.size a w' := h.trans (k.to_below h.size hS)
end

/-- The worlds in which of what was there in w only blocks of S have changed. -/
def CX (S : Nat → Prop) (w : World) : Type := {w' : World // Ch S w w'}
def CX.w {S : Nat → Prop} {w : World} (x : CX S w) : World := x.1
instance (S : Nat → Prop) (w : World) : Inhabited (CX S w) := ⟨⟨w, Ch.refl _ _⟩⟩
section
variable {S : Nat → Prop} {w : World} (x : CX S w)
theorem CX.ch : Ch S w x.w := x.2
theorem CX.size : w.heap.size ≤ x.w.heap.size := x.2.size
@[go_sem] theorem CX.cell (b o : Nat) (h : b < w.heap.size) (hS : ¬ S b) : x.w.cell? ⟨b, o, none⟩ = w.cell? ⟨b, o, none⟩ := x.2.cells b o h hS
@[go_sem] theorem CX.frozen (b o : Nat) (h : b < w.heap.size) (hS : ¬ S b) : x.w.frozen? ⟨b, o, none⟩ = w.frozen? ⟨b, o, none⟩ := x.2.frozens b o h hS
@[go_sem] theorem CX.lt_size {n : Nat} (h : n < w.heap.size) : n < x.w.heap.size := Nat.lt_of_lt_of_le h x.size
@[go_sem] theorem CX.ne_size {n : Nat} (h : n < w.heap.size) : (n = x.w.heap.size) = False := by
 have := x.size
 simp; omega
@[go_sem] theorem CX.cell_drewN {n : Nat} (x : CX S (w.drewN n)) (b o : Nat) (h : b < w.heap.size) (hS : ¬ S b) : x.w.cell? ⟨b, o, none⟩ = w.cell? ⟨b, o, none⟩ := x.cell b o h hS
@[go_sem] theorem CX.frozen_drewN {n : Nat} (x : CX S (w.drewN n)) (b o : Nat) (h : b < w.heap.size) (hS : ¬ S b) : x.w.frozen? ⟨b, o, none⟩ = w.frozen? ⟨b, o, none⟩ := x.frozen b o h hS
@[go_sem] theorem CX.lt_drewN {n m : Nat} (x : CX S (w.drewN n)) (h : m < w.heap.size) : m < x.w.heap.size := x.lt_size h
theorem ch_bx {a : World} (h : Ch S a w) (x : BX w) : Ch S a x.w := h.trans (Ch.of_below (S := S) x.below) (fun _ h _ => h)
theorem ch_cx {a : World} {T : Nat → Prop} (h : Ch S a w) (x : CX T w) (hT : ∀ b, T b → b < a.heap.size → S b) : Ch S a x.w := h.trans x.ch hT
end

/-- A region that draws its order, whose operations read and whose calls change nothing that was there. -/
theorem wp_region_bx {P : Program} {id : Nat} {Q : Exit → Act → World → Prop} {a : Act} {w : World} {l : List Oper} (hm : P.follows .mixedOrders = true) (hB : Region.lexB .any l.toArray = true)
 (h : wpQuiet P l.toArray (fun w' => ∃ x : BX w, w' = x.w) (fun a' => ∀ w', (∃ x : BX w, w' = x.w) → Q .normal a' w') l a) : (Code.region id l.toArray true).wp P Q a w :=
 wp_region_quiet (C := fun w' => ∃ x : BX w, w' = x.w) hm hB ⟨⟨w.drew, (Below.refl _ _).drew⟩, rfl⟩ (by simpa using h)

/-- The cells of a list of integers. -/
def ia (k : IntKind) (xs : List Int) : Array Value := (xs.map (Value.int k)).toArray
@[go_sem] theorem ia_set (k : IntKind) (xs : List Int) (i : Nat) (v : Int) : (ia k xs).setIfInBounds i (.int k v) = ia k (xs.set i v) := by
 simp [ia, List.map_set]
@[go_sem] theorem ia_getq (k : IntKind) (xs : List Int) (i : Nat) : (ia k xs)[i]? = xs[i]?.map (Value.int k) := by
 simp [ia]
/-- A block of integers, known whole. -/
def IB (k : IntKind) (e : TypeId) (w : World) (g : Nat) (xs : List Int) : Prop := w.heap[g]? = some (.cells (ia k xs) e (0, 0))

section
variable {k : IntKind} {e : TypeId} {w w' : World} {g : Nat} {xs : List Int}
theorem IB.lt (h : IB k e w g xs) : g < w.heap.size := by
 rcases Nat.lt_or_ge g w.heap.size with hlt | hge
 · exact hlt
 · unfold IB at h; rw [Array.getElem?_eq_none hge] at h; cases h
theorem IB.cell (h : IB k e w g xs) {i : Nat} (hi : i < xs.length) : w.cell? ⟨g, i, none⟩ = some (.int k xs[i]) := by
 unfold IB at h
 simp [World.cell?, h, hi, ia]
theorem IB.frozen (h : IB k e w g xs) (i : Nat) : w.frozen? ⟨g, i, none⟩ = false := by
 unfold IB at h
 simp [World.frozen?, h]
theorem IB.set (h : IB k e w g xs) (i : Nat) (v : Int) : IB k e (w.setCell ⟨g, i, none⟩ (.int k v)) g (xs.set i v) := by
 unfold IB at h ⊢
 simp [World.setCell, Array.getElem?_modify, h, ia_set]
theorem IB.keep (h : IB k e w g xs) (hb : w'.heap[g]? = w.heap[g]?) : IB k e w' g xs := hb.trans h
theorem IB.far (h : IB k e w g xs) {p : Addr} (hp : g ≠ p.block) (u : Value) : IB k e (w.setCell p u) g xs := (Below.heap_setCell w p u g hp).trans h
theorem IB.alloc (h : IB k e w g xs) (o : Obj) : IB k e (w.alloc o) g xs := (Below.heap_alloc w o g h.lt).trans h
theorem IB.ch {S : Nat → Prop} (h : IB k e w g xs) (hc : Ch S w w') (hS : ¬ S g) : IB k e w' g xs := (hc.block g h.lt hS).trans h
theorem IB.below {B : Nat} (h : IB k e w g xs) (hb : Below B w w') (hg : g < B) : IB k e w' g xs := (hb.block g hg).trans h
theorem IB.drewN (h : IB k e w g xs) (n : Nat) : IB k e (w.drewN n) g xs := h
theorem IB.new (w : World) (xs : List Int) : IB k e (w.alloc (.cells (ia k xs) e)) w.heap.size xs := heap_alloc_new w _
theorem IB.rd (h : IB k e w g xs) (off n : Nat) : Rd k w (some ⟨g, off, none⟩) ((xs.drop off).take n) := by
 refine .inr ⟨g, off, rfl, h.lt, fun i hi => ?_⟩
 have : off + i < xs.length := by simp at hi; omega
 rw [h.cell this]
 simp
theorem IB.rd0 (h : IB k e w g xs) : Rd k w (some ⟨g, 0, none⟩) xs := by
 have := h.rd 0 xs.length
 simpa using this
end

theorem Rd.take {k : IntKind} {w : World} {A : Option Addr} {xs : List Int} (h : Rd k w A xs) (n : Nat) : Rd k w A (xs.take n) := by
 rcases h with rfl | ⟨b, off, h1, h2, h3⟩
 · left; simp
 · refine .inr ⟨b, off, h1, h2, fun i hi => ?_⟩
   simp only [List.length_take] at hi
   rw [h3 i (by omega), List.getElem_take]
theorem Rd.drop {k : IntKind} {w : World} {b off : Nat} {xs : List Int} (h : Rd k w (some ⟨b, off, none⟩) xs) (n : Nat) : Rd k w (some ⟨b, off + n, none⟩) (xs.drop n) := by
 rcases h with rfl | ⟨b', off', h1, h2, h3⟩
 · left; simp
 · injection h1 with h1
   injection h1 with h1 h1'
   subst h1 h1'
   refine .inr ⟨b, off + n, rfl, h2, fun i hi => ?_⟩
   simp only [List.length_drop] at hi
   rw [Nat.add_assoc, h3 (n + i) (by omega), List.getElem_drop]

theorem ch_setRow {w : World} (g : Nat) (cs : Array Value) : Ch (At g) w (w.setRow g cs) :=
 ⟨rfl, rfl, rfl, by simp, fun k _ hS => setRow_other w g k cs (fun h => hS h)⟩

theorem map_splice {α β : Type} (f : α → β) (L : List α) (off : Nat) (cs : List α) : (splice L off cs).map f = splice (L.map f) off (cs.map f) := by
 simp [splice]

/-- make of a slice of integers, whatever its length. -/
theorem run_make_ints {P : Program} (t e : TypeId) (k kl kc : IntKind) (n : Nat) (ht : P.underlying t = some (.slice e)) (by_ : Nat) (hinfo : (P.info? e).map (fun i => (i.zero, i.size, i.bytes)) = some (some (.int k 0), 1, by_))
 (hby : by_ ≤ 8) (hn : n ≤ 35184372088832) (w : World) :
 (Instr.makeSlice t (.int kl (n : Int)) (.int kc (n : Int))).run P w = .ok (.slice (some ⟨w.heap.size, 0, none⟩) n n) (w.alloc (.cells (ia k (List.replicate n (0 : Int))) e)) := by
 cases hi : P.info? e with
 | none => rw [hi] at hinfo; cases hinfo
 | some i =>
  rw [hi] at hinfo
  simp only [Option.map_some, Option.some.injEq, Prod.mk.injEq] at hinfo
  obtain ⟨hz, hs, hb⟩ := hinfo
  have hr := run_make (P := P) w t e i (.int k 0) ht hi hz kl kc n n (by omega) (by omega) (by rw [hb]; have h9 : by_ * n ≤ 8 * n := Nat.mul_le_mul_right n hby; have : ((by_ * n : Nat) : Int) = (by_ : Int) * (n : Int) := Int.natCast_mul _ _; omega) (by omega)
  rw [hr, hs]
  simp only [Int.toNat_natCast, Nat.mul_one]
  congr 3
  congr 1
  simp only [madeCells, Value.cells, ia, List.map_replicate]
  apply Array.ext
  · simp
  · intro i h1 h2
    simp [Nat.mod_one]


theorem run_make_z {P : Program} (t e : TypeId) (k kl kc : IntKind) (z : Int) (n : Nat) (hz : z = (n : Int)) (ht : P.underlying t = some (.slice e)) (by_ : Nat) (hinfo : (P.info? e).map (fun i => (i.zero, i.size, i.bytes)) = some (some (.int k 0), 1, by_))
 (hby : by_ ≤ 8) (hn : n ≤ 35184372088832) (w : World) :
 (Instr.makeSlice t (.int kl z) (.int kc z)).run P w = .ok (.slice (some ⟨w.heap.size, 0, none⟩) n n) (w.alloc (.cells (ia k (List.replicate n (0 : Int))) e)) := by
 subst hz; exact run_make_ints t e k kl kc n ht by_ hinfo hby hn w
set_option linter.unusedVariables false
/-- One step of the register, of any length. -/
def crT (x : Nat) : Nat := x / 2 ^^^ (if x % 2 = 1 then 2197175160 else 0)
def crTi : Nat → Nat → Nat
 | 0, x => x
 | n + 1, x => crTi n (crT x)

theorem crT_zero : crT 0 = 0 := by decide
theorem crT_xor (a b : Nat) : crT (a ^^^ b) = crT a ^^^ crT b := by
 unfold crT
 have h1 : (a ^^^ b) / 2 = a / 2 ^^^ b / 2 := by
  have := Nat.shiftRight_xor_distrib (a := a) (b := b) (i := 1)
  simpa [Nat.shiftRight_succ] using this
 have h2 : (a ^^^ b) % 2 = (a % 2) ^^^ (b % 2) := by
  have := Nat.xor_mod_two_pow (a := a) (b := b) (n := 1)
  simpa using this
 rw [h1, h2]
 rcases Nat.mod_two_eq_zero_or_one a with ha | ha <;> rcases Nat.mod_two_eq_zero_or_one b with hb | hb <;> rw [ha, hb]
 · simp
 · simp [Nat.xor_assoc]
 · simp only [show ((1 : Nat) ^^^ 0) = 1 from rfl, if_true, show ¬ ((0 : Nat) = 1) by decide, if_false, Nat.xor_zero]
   rw [Nat.xor_assoc, Nat.xor_comm (b / 2), ← Nat.xor_assoc]
 · simp only [show ((1 : Nat) ^^^ 1) = 0 from rfl, if_true, show ¬ ((0 : Nat) = 1) by decide, if_false, Nat.xor_zero]
   rw [Nat.xor_assoc, ← Nat.xor_assoc 2197175160, Nat.xor_comm 2197175160, Nat.xor_assoc, Nat.xor_self, Nat.xor_zero]
theorem crTi_xor (n : Nat) : ∀ a b, crTi n (a ^^^ b) = crTi n a ^^^ crTi n b := by
 induction n with
 | zero => intro a b; rfl
 | succ n ih => intro a b; rw [crTi, crT_xor, ih]; rfl
theorem crTi_zero (n : Nat) : crTi n 0 = 0 := by
 induction n with
 | zero => rfl
 | succ n ih => rw [crTi, crT_zero, ih]
theorem crTi_add (n m x : Nat) : crTi (n + m) x = crTi m (crTi n x) := by
 induction n generalizing x with
 | zero => rw [Nat.zero_add]; rfl
 | succ n ih => rw [Nat.succ_add, crTi, ih]; rfl
theorem crT_two (x : Nat) : crT (2 * x) = x := by
 unfold crT
 rw [if_neg (by omega), Nat.xor_zero]; omega
theorem crTi_shift (n x : Nat) : crTi n (x * 2 ^ n) = x := by
 induction n generalizing x with
 | zero => simp [crTi]
 | succ n ih => rw [crTi, show x * 2 ^ (n + 1) = 2 * (x * 2 ^ n) by rw [Nat.pow_succ, ← Nat.mul_assoc, Nat.mul_comm 2], crT_two, ih]
theorem crT_ne {x : Nat} (h : 0 < x) (hx : x < 2 ^ 32) : 0 < crT x ∧ crT x < 2 ^ 32 := by
 unfold crT
 have hl : x / 2 ^^^ (if x % 2 = 1 then 2197175160 else 0) < 2 ^ 32 := Nat.xor_lt_two_pow (by omega) (by split <;> omega)
 refine ⟨?_, hl⟩
 by_cases ho : x % 2 = 1
 · rw [if_pos ho]
   apply Nat.pos_of_ne_zero
   intro h0
   have : (x / 2 ^^^ 2197175160).testBit 31 = false := by rw [h0]; exact Nat.zero_testBit _
   rw [Nat.testBit_xor, Nat.testBit_lt_two_pow (show x / 2 < 2 ^ 31 by omega), show Nat.testBit 2197175160 31 = true by decide] at this
   cases this
 · rw [if_neg ho, Nat.xor_zero]; omega
theorem crTi_lt (n : Nat) {x : Nat} (hx : x < 2 ^ 32) : crTi n x < 2 ^ 32 := by
 by_cases h : x = 0
 · rw [h, crTi_zero]; decide
 · induction n generalizing x with
   | zero => exact hx
   | succ n ih =>
    have := crT_ne (by omega : 0 < x) hx
    exact ih this.2 (by omega)
/-- The table of four bits. -/
def nibT : List Nat := [0, 274646895, 549293790, 820201905, 1098587580, 1361435347, 1640403810, 1905808397, 2197175160, 2460548119, 2722870694, 2987750089, 3280807620, 3553878443, 3811616794, 4084100981]
theorem nib_ok : ∀ n, n < 16 → crTi 4 n = nibT.getD n 0 := by decide
theorem split_xor (x k : Nat) : x = (x / 2 ^ k * 2 ^ k) ^^^ (x % 2 ^ k) := by
 apply Nat.eq_of_testBit_eq
 intro i
 rw [Nat.testBit_xor, Nat.testBit_mod_two_pow, Nat.testBit_mul_two_pow, Nat.testBit_div_two_pow]
 by_cases h : k ≤ i
 · have : ¬ i < k := by omega
   simp [h, this, Nat.sub_add_cancel h]
 · have : i < k := by omega
   simp [h, this]
theorem crTi_split (k x : Nat) : crTi k x = x / 2 ^ k ^^^ crTi k (x % 2 ^ k) := by
 conv => lhs; rw [split_xor x k]
 rw [crTi_xor, crTi_shift]
theorem crTi_four (x : Nat) : crTi 4 x = x / 16 ^^^ nibT.getD (x % 16) 0 := by
 rw [crTi_split 4 x, nib_ok _ (by omega)]

/-- The register after words. -/
def crW : Nat → List Nat → Nat
 | r, [] => r
 | r, w :: ws => crW (crTi 64 (r ^^^ w)) ws
/-- Words as one number. -/
def crN : List Nat → Nat
 | [] => 0
 | w :: ws => w ^^^ crN ws * 2 ^ 64
theorem crW_lt (ws : List Nat) (r : Nat) (hr : r < 2 ^ 32) (hws : ∀ w ∈ ws, w < 2 ^ 64) : crW r ws < 2 ^ 32 := by
 induction ws generalizing r with
 | nil => exact hr
 | cons w ws ih =>
  refine ih _ ?_ (fun x hx => hws x (by simp [hx]))
  rw [crTi_xor]
  refine Nat.xor_lt_two_pow (crTi_lt _ hr) ?_
  have hw := hws w (by simp)
  rw [show (64 : Nat) = 32 + 32 from rfl, crTi_add, crTi_split 32 w]
  refine crTi_lt _ (Nat.xor_lt_two_pow (by omega) (crTi_lt _ (Nat.mod_lt _ (by decide))))
def crSum (ws : List Nat) : Nat := 4294967295 ^^^ crW 4294967295 ws
/-- All words fit. -/
def Fits (ws : List Int) : Prop := ∀ x ∈ ws, 0 ≤ x ∧ x < 18446744073709551616
def byteAt (ws : List Int) (i : Nat) : Int := ws[i / 8]?.getD 0 / 2 ^ (i % 8 * 8) % 256
/-- The little-endian bytes of words. -/
def bytesL (ws : List Int) : List Int := (List.range (8 * ws.length)).map (byteAt ws)
theorem length_bytesL (ws : List Int) : (bytesL ws).length = 8 * ws.length := by simp [bytesL]
theorem bytesL_get (ws : List Int) (i : Nat) (h : i < (bytesL ws).length) : (bytesL ws)[i] = byteAt ws i := by
 simp [bytesL]
theorem Fits.getD {ws : List Int} (h : Fits ws) (i : Nat) : 0 ≤ ws[i]?.getD 0 ∧ ws[i]?.getD 0 < 18446744073709551616 := by
 by_cases hi : i < ws.length
 · rw [List.getElem?_eq_getElem hi]; exact h _ (List.getElem_mem hi)
 · rw [List.getElem?_eq_none (by omega)]; exact ⟨Int.le_refl _, by decide⟩
theorem Fits.set {ws : List Int} (h : Fits ws) (i : Nat) {v : Int} (hv : 0 ≤ v ∧ v < 18446744073709551616) : Fits (ws.set i v) := by
 intro x hx
 rcases List.mem_or_eq_of_mem_set hx with h1 | h1
 · exact h x h1
 · rw [h1]; exact hv
/-- The bytes of which k are laid. -/
def byPad (ws : List Int) (k : Nat) : List Int := (bytesL ws).take k ++ List.replicate (8 * ws.length - k) 0
theorem byPad_zero (ws : List Int) : byPad ws 0 = List.replicate (8 * ws.length) 0 := by simp [byPad]
theorem byPad_all (ws : List Int) : byPad ws (8 * ws.length) = bytesL ws := by
 unfold byPad
 rw [List.take_of_length_le (by rw [length_bytesL]; omega), Nat.sub_self]; simp
theorem length_byPad (ws : List Int) (k : Nat) (hk : k ≤ 8 * ws.length) : (byPad ws k).length = 8 * ws.length := by simp [byPad, length_bytesL]; omega
theorem byPad_set (ws : List Int) (k : Nat) (hk : k < 8 * ws.length) : (byPad ws k).set k (byteAt ws k) = byPad ws (k + 1) := by
 have hkl : k < (bytesL ws).length := by rw [length_bytesL]; exact hk
 unfold byPad
 rw [List.take_succ_eq_append_getElem hkl, bytesL_get, List.set_append_right _ _ (by simp; omega)]
 obtain ⟨m, hm⟩ : ∃ m, 8 * ws.length - k = m + 1 := ⟨8 * ws.length - k - 1, by omega⟩
 have e1 : k - ((bytesL ws).take k).length = 0 := by simp; omega
 rw [e1, hm, List.replicate_succ, List.set_cons_zero, show 8 * ws.length - (k + 1) = m by omega]
 simp

/-- A byte is laid into a word. -/
theorem or_byte (v : Int) (hv : 0 ≤ v ∧ v < 18446744073709551616) (s : Nat) (hs : s < 8) : bits .or .u64 (v % 2 ^ (s * 8)) (IntKind.u64.wrap (v / 2 ^ (s * 8) % 256 * 2 ^ (s * 8))) = v % 2 ^ ((s + 1) * 8) := by
 obtain ⟨n, rfl⟩ := Int.eq_ofNat_of_zero_le hv.1
 have hp : ∀ k : Nat, (2 : Int) ^ k = ((2 ^ k : Nat) : Int) := fun k => (Int.natCast_pow 2 k).symm
 have key : n % 2 ^ (s * 8) + 2 ^ (s * 8) * (n / 2 ^ (s * 8) % 256) = n % 2 ^ ((s + 1) * 8) := by
  rw [show (s + 1) * 8 = s * 8 + 8 by omega, Nat.pow_add, Nat.mod_mul]
 have hlt : n % 2 ^ (s * 8) < 2 ^ (s * 8) := Nat.mod_lt _ (Nat.two_pow_pos _)
 have h64 : n % 2 ^ ((s + 1) * 8) < 18446744073709551616 := Nat.lt_of_le_of_lt (Nat.mod_le _ _) (by omega)
 have h2 := Nat.two_pow_add_eq_or_of_lt hlt (n / 2 ^ (s * 8) % 256)
 rw [hp (s * 8), hp ((s + 1) * 8)]
 generalize 2 ^ (s * 8) = a at *
 generalize 2 ^ ((s + 1) * 8) = b at *
 have e1 : ((n : Nat) : Int) / (a : Int) % 256 * (a : Int) = ((a * (n / a % 256) : Nat) : Int) := by
  rw [Int.natCast_mul, Int.natCast_emod, Int.natCast_ediv, Int.mul_comm]; rfl
 have e2 : ((n : Nat) : Int) % (a : Int) = ((n % a : Nat) : Int) := (Int.natCast_emod n a).symm
 have e3 : ((n : Nat) : Int) % (b : Int) = ((n % b : Nat) : Int) := (Int.natCast_emod n b).symm
 rw [e1, e2, e3, IntWalk.u64_in _ (by omega), bits_or_u64_nat _ _ (by omega) (by omega), Nat.or_comm, ← h2]
 congr 1
 omega
def nats (ws : List Int) : List Nat := ws.map Int.toNat
theorem nats_lt {ws : List Int} (h : Fits ws) : ∀ w ∈ nats ws, w < 2 ^ 64 := by
 intro w hw
 obtain ⟨x, hx, rfl⟩ := List.mem_map.1 hw
 have := h x hx
 omega
/-- Words of which bit k is inverted. -/
def flipK (ws : List Int) (k : Nat) : List Int := ws.set (k / 64) ((((ws[k / 64]?.getD 0).toNat ^^^ 2 ^ (k % 64) : Nat)) : Int)
theorem Fits.flipK {ws : List Int} (h : Fits ws) (k : Nat) : Fits (flipK ws k) := by
 refine h.set _ ?_
 have h0 := h.getD (k / 64)
 have := Nat.xor_lt_two_pow (n := 64) (x := (ws[k / 64]?.getD 0).toNat) (y := 2 ^ (k % 64)) (by omega) (Nat.pow_lt_pow_right (by omega) (by omega))
 omega
/-- What Burst makes of words in the first j rounds. -/
structure BurI (ws : List Int) (bit : Int) (j : Nat) (vs : List Int) : Prop where
 fits : Fits vs
 len : vs.length = ws.length
 num : ∃ p, p < 2 ^ j ∧ crN (nats vs) = crN (nats ws) ^^^ p * 2 ^ bit.toNat
theorem BurI.start {ws : List Int} (h : Fits ws) (bit : Int) : BurI ws bit 0 ws := ⟨h, rfl, 0, by decide, by simp⟩
theorem BurI.skip {ws vs : List Int} {bit : Int} {j : Nat} (h : BurI ws bit j vs) : BurI ws bit (j + 1) vs := by
 obtain ⟨h1, h2, p, h3, h4⟩ := h
 exact ⟨h1, h2, p, Nat.lt_trans h3 (Nat.pow_lt_pow_right (by omega) (by omega)), h4⟩
/-- The sum of words. -/
def sumI (ws : List Int) : Int := (crSum (nats ws) : Nat)
/-- A slice of integers in a row of the call's own (or nil). -/
def OwnI (k : IntKind) (e : TypeId) (w : World) (base : Nat) (A : Option Addr) (c : Nat) (xs : List Int) : Prop :=
 w.ownsRow base e 1 (.slice A xs.length c) xs.length (xs.map (Value.int k))
/-- The block of an address. -/
def OwnB (A : Option Addr) (b : Nat) : Prop := A.map (·.block) = some b
@[go_sem] theorem OwnB_some (a : Addr) (b : Nat) : OwnB (some a) b ↔ a.block = b := by simp [OwnB]
@[go_sem] theorem OwnB_none (b : Nat) : ¬ OwnB none b := by simp [OwnB]

section
variable {k : IntKind} {e : TypeId} {w w' : World} {base : Nat} {A : Option Addr} {c : Nat} {xs : List Int}
theorem OwnI.cases (h : OwnI k e w base A c xs) : (A = none ∧ xs = [] ∧ c = 0) ∨ ∃ g cur, A = some ⟨g, 0, none⟩ ∧ base ≤ g ∧ w.heap[g]? = some (.cells cur e (0, 0)) ∧ xs.length ≤ c ∧ c ≤ maxLen ∧ cur.size = c ∧ cur.toList.take xs.length = xs.map (Value.int k) := by
 obtain ⟨h1, h2⟩ := h
 rcases h2 with ⟨h2, h3⟩ | ⟨g, cap, cur, hv, h4, h5, h6, h7, h8, h9⟩
 · injection h2 with h2 h2' h2''
   exact .inl ⟨h2, List.eq_nil_of_length_eq_zero h3, h2''⟩
 · injection hv with hv hv' hv''
   subst hv hv''
   exact .inr ⟨g, cur, rfl, h4, h5, h6, h7, by simpa using h8, by simpa using h9⟩
theorem OwnI.rd (h : OwnI k e w base A c xs) : Rd k w A xs := by
 rcases h.cases with ⟨_, rfl, _⟩ | ⟨g, cur, rfl, hg, hh, _, _, _, ht⟩
 · exact .inl rfl
 · have hlt : g < w.heap.size := (Array.getElem?_eq_some_iff.1 hh).1
   refine .inr ⟨g, 0, rfl, hlt, fun i hi => ?_⟩
   have h1 : (cur.toList.take xs.length)[i]? = some (.int k xs[i]) := by rw [ht]; simp [hi]
   rw [List.getElem?_take] at h1
   simp only [hi, if_true] at h1
   simp [World.cell?, hh]
   simpa using h1
theorem OwnI.lt (h : OwnI k e w base A c xs) {b : Nat} (hb : OwnB A b) : base ≤ b ∧ b < w.heap.size := by
 rcases h.cases with ⟨rfl, rfl, _⟩ | ⟨g, cur, rfl, hg, hh, _, _, _, ht⟩
 · simp [OwnB] at hb
 · have : g = b := by simpa [OwnB] using hb
   subst this
   exact ⟨hg, (Array.getElem?_eq_some_iff.1 hh).1⟩
theorem OwnI.keep (h : OwnI k e w base A c xs) (hb : ∀ b, OwnB A b → w'.heap[b]? = w.heap[b]?) : OwnI k e w' base A c xs := by
 refine ⟨h.1, ?_⟩
 rcases h.2 with h2 | ⟨g, cap, cur, hv, h4, h5, r⟩
 · exact .inl h2
 · have hA : A = some ⟨g, 0, none⟩ := by injection hv
   exact .inr ⟨g, cap, cur, hv, h4, by rw [hb g (by rw [hA]; simp [OwnB])]; exact h5, r⟩
theorem OwnI.ch {S : Nat → Prop} (h : OwnI k e w base A c xs) (hc : Ch S w w') (hS : ∀ b, OwnB A b → ¬ S b) : OwnI k e w' base A c xs :=
 h.keep fun b hb => hc.block b (h.lt hb).2 (hS b hb)
theorem OwnI.below (h : OwnI k e w base A c xs) (hb : Below w.heap.size w w') : OwnI k e w' base A c xs := h.keep fun b hb' => hb.block b (h.lt hb').2
theorem OwnI.bx (h : OwnI k e w base A c xs) (x : BX w) : OwnI k e x.w base A c xs := h.below x.below
theorem OwnI.alloc (h : OwnI k e w base A c xs) (o : Obj) : OwnI k e (w.alloc o) base A c xs := h.below (bl_alloc (Below.refl _ _) _)
theorem OwnI.drewN (h : OwnI k e w base A c xs) (n : Nat) : OwnI k e (w.drewN n) base A c xs := h
theorem OwnI.drew (h : OwnI k e w base A c xs) : OwnI k e w.drew base A c xs := h
theorem OwnI.nil : OwnI k e w base none 0 [] := by
 have := World.ownsRow_nil w base e 1
 exact this
theorem OwnI.lower {base' : Nat} (h : OwnI k e w base A c xs) (hb : base' ≤ base) : OwnI k e w base' A c xs := by
 refine ⟨h.1, ?_⟩
 rcases h.2 with h2 | ⟨g, cap, cur, hv, h4, h5, r⟩
 · exact .inl h2
 · exact .inr ⟨g, cap, cur, hv, Nat.le_trans hb h4, h5, r⟩
theorem OwnI.made (w : World) (n : Nat) (hn : n ≤ 1000000000000) (hb : base ≤ w.heap.size) : OwnI k e (w.alloc (.cells (ia k (List.replicate n 0)) e)) base (some ⟨w.heap.size, 0, none⟩) n [] := by
 refine ⟨by simp, .inr ⟨w.heap.size, n, _, rfl, hb, heap_alloc_new w _, by simp, by unfold maxLen; omega, by simp [ia], by simp⟩⟩
end

/-- append onto a slice of integers of the call's own. -/
theorem run_append_ints {P : Program} (w : World) (t ty e : TypeId) (k : IntKind) (by_ : Nat) (ht : P.underlying t = some (.slice e)) (hinfo : (P.info? e).map (fun i => (i.zero, i.size, i.bytes)) = some (some (.int k 0), 1, by_)) (hby : by_ ≤ 8)
 (base : Nat) (A : Option Addr) (c : Nat) (xs : List Int) (n : Nat) (hn : xs.length = n) (hown : OwnI k e w base A c xs) (sp : Option Addr) (m d : Nat) (ys : List Int) (hm : ys.length = m) (hr : Rd k w sp ys)
 (hbound : xs.length + ys.length ≤ 1000000000000) (hbase : base ≤ w.heap.size) :
 ∃ A' c' w', (Builtin.append_ #[t, t] ty #[.slice A n c, .slice sp m d]).run P w = .ok (.slice A' (n + m) c') w' ∧ OwnI k e w' base A' c' (xs ++ ys) ∧ Ch (OwnB A) w w' ∧ (∀ b, OwnB A' b → OwnB A b ∨ b = w.heap.size) := by
 subst hn hm
 cases hi : P.info? e with
 | none => rw [hi] at hinfo; cases hinfo
 | some i =>
  rw [hi] at hinfo
  simp only [Option.map_some, Option.some.injEq, Prod.mk.injEq] at hinfo
  obtain ⟨hz, hs, hb⟩ := hinfo
  have hbb : (xs.length + ys.length) * by_ ≤ (xs.length + ys.length) * 8 := Nat.mul_le_mul_left _ hby
  by_cases hy : ys = []
  · subst hy
    refine ⟨A, c, w, ?_, by simpa using hown, Ch.refl _ _, fun b hb => .inl hb⟩
    rcases hown.2 with ⟨hv, h0⟩ | ⟨g, cap, cur, hv, _, _, hnc, _⟩
    · injection hv with hv hv' hv''
      subst hv hv''
      rcases sp with _ | ad
      · simp [Builtin.append_, run_underlying ht, sizeOf, typeInfo, hi, Builtin.lenOf, Builtin.firstCells, h0]
      · simp [Builtin.append_, run_underlying ht, sizeOf, typeInfo, hi, Builtin.lenOf, Builtin.firstCells, loadCells, loadCellsFrom, h0]
    · injection hv with hv hv' hv''
      subst hv hv''
      rcases sp with _ | ad
      · simp [Builtin.append_, run_underlying ht, sizeOf, typeInfo, hi, Builtin.lenOf, Builtin.firstCells, hnc, storeCells]
      · simp [Builtin.append_, run_underlying ht, sizeOf, typeInfo, hi, Builtin.lenOf, Builtin.firstCells, loadCells, loadCellsFrom, hnc, storeCells]
  · have hpos : 0 < ys.length := List.length_pos_iff.2 hy
    obtain ⟨b, off, rfl, hlt, _⟩ := hr.at_ hpos
    obtain ⟨v', w', hrun, ho, hg, _, hwhere⟩ := run_append_own_at (P := P) w base t ty e i (.int k 0) 1 by_ ht hi hz hs hb rfl (by omega) (.slice A xs.length c) xs.length (xs.map (Value.int k)) hown ⟨b, off, none⟩ ys.length d (ys.map (Value.int k)) (by simp)
     (fun j u hu => by
      simp only [List.getElem?_map, Option.map_eq_some_iff] at hu
      obtain ⟨y, hy, rfl⟩ := hu
      obtain ⟨hj, rfl⟩ := List.getElem?_eq_some_iff.1 hy
      have h1 : (⟨b, off, none⟩ : Addr).add j = ⟨b, off + j, none⟩ := by unfold Addr.add; split <;> simp_all
      rw [h1]
      obtain ⟨b', off', h2, _, h3⟩ := hr.at_ hj
      injection h2 with h2
      injection h2 with h2 h2'
      subst h2 h2'
      exact h3)
     (fun u hu => by
      obtain ⟨y, _, rfl⟩ := List.mem_map.1 hu
      rfl)
     (by unfold maxLen; omega) (by omega) hbase
    have hne : 0 < xs.length + ys.length := by omega
    obtain ⟨g, cap, hv, _, _⟩ := ho.form hne
    subst hv
    refine ⟨_, _, w', hrun, ?_, ?_, ?_⟩
    · unfold OwnI
      rw [List.length_append, List.map_append]
      exact ho
    · refine ⟨hg.os, hg.tape, hg.output, hg.size, fun q hq hS => hg.block q hq (fun he => hS ?_)⟩
      rcases hown.2 with ⟨hv, h0⟩ | ⟨g', cap', cur, hv, _⟩
      · injection hv with hv
        subst hv
        simp [Value.ownBlock] at he
      · injection hv with hv
        subst hv
        simp [Value.ownBlock] at he
        simp [OwnB, he]
    · intro q hq
      have hgq : g = q := by simpa [OwnB] using hq
      subst hgq
      rcases hwhere with hw | hw
      · left
        rcases hown.2 with ⟨hv, h0⟩ | ⟨g', cap', cur, hv, _⟩
        · injection hv with hv
          subst hv
          simp [Value.ownBlock] at hw
        · injection hv with hv
          subst hv
          simp [Value.ownBlock] at hw
          simp [OwnB, hw]
      · right
        simpa [Value.ownBlock] using hw

theorem wpList_append_ints {P : Program} {w : World} {ops : Array Oper} {rest : List Oper} {o : Oper} {a : Act} {Q : Exit → Act → World → Prop} (hgd : o.guard = none) (s x : Operand) (t : TypeId)
 (ho : o.op = .call { callee := .builtin .append, args := #[s, x], argTypes := #[t, t] }) (e : TypeId) (k : IntKind) (by_ : Nat) (ht : P.underlying t = some (.slice e)) (hinfo : (P.info? e).map (fun i => (i.zero, i.size, i.bytes)) = some (some (.int k 0), 1, by_)) (hby : by_ ≤ 8)
 (base : Nat) (A : Option Addr) (c : Nat) (xs : List Int) (n : Nat) (sp : Option Addr) (m d : Nat) (ys : List Int) (hse : a.eval s = .slice A n c) (hxe : a.eval x = .slice sp m d)
 (hn : xs.length = n) (hown : OwnI k e w base A c xs) (hm : ys.length = m) (hr : Rd k w sp ys)
 (hbound : xs.length + ys.length ≤ 1000000000000) (hbase : base ≤ w.heap.size)
 (h : ∀ A' c' w', Hid (OwnI k e w' base A' c' (xs ++ ys)) → Hid (Ch (OwnB A) w w') → Hid (∀ b, OwnB A' b → OwnB A b ∨ b = w.heap.size) → wpList P ops Q rest (a.put o.dst (.slice A' (n + m) c')) w') : wpList P ops Q (o :: rest) a w := by
 refine wpList_plain hgd fun K hK => ?_
 obtain ⟨A', c', w', hrun, h1, h2, h3⟩ := run_append_ints (P := P) w t o.type e k by_ ht hinfo hby base A c xs n hn hown sp m d ys hm hr hbound hbase
 unfold Oper.wp execOp
 simp only [ho, resolve, invoke, builtin, Sem.run_bind, Sem.run_pure, Result.andThen_ok, List.map_toArray, List.map_cons, List.map_nil, hse, hxe, hrun]
 exact hK _ _ (h A' c' w' h1 h2 h3)

theorem IB.new_at (k : IntKind) (e : TypeId) (w : World) (g : Nat) (xs : List Int) (hg : g = w.heap.size) : IB k e (w.alloc (.cells (ia k xs) e)) g xs := by subst hg; exact IB.new w xs
theorem IB.bx {k : IntKind} {e : TypeId} {w : World} {g : Nat} {xs : List Int} (h : IB k e w g xs) (x : BX w) : IB k e x.w g xs := h.below x.below h.lt

def CB (w : World) (g : Nat) (e : TypeId) (cs : Array Value) : Prop := w.heap[g]? = some (.cells cs e (0, 0))
section
variable {w w' : World} {g : Nat} {e : TypeId} {cs : Array Value}
theorem CB.lt (h : CB w g e cs) : g < w.heap.size := (Array.getElem?_eq_some_iff.1 h).1
theorem CB.cell (h : CB w g e cs) (i : Nat) : w.cell? ⟨g, i, none⟩ = cs[i]? := by
 unfold CB at h
 simp [World.cell?, h]
theorem CB.cell_some (h : CB w g e cs) {i : Nat} {v : Value} (hv : cs[i]? = some v) : w.cell? ⟨g, i, none⟩ = some v := (h.cell i).trans hv
theorem CB.frozen (h : CB w g e cs) (i : Nat) : w.frozen? ⟨g, i, none⟩ = false := by
 unfold CB at h
 simp [World.frozen?, h]
theorem CB.set (h : CB w g e cs) (i : Nat) (v : Value) : CB (w.setCell ⟨g, i, none⟩ v) g e (cs.setIfInBounds i v) := by
 unfold CB at h ⊢
 simp [World.setCell, Array.getElem?_modify, h]
theorem CB.keep (h : CB w g e cs) (hb : w'.heap[g]? = w.heap[g]?) : CB w' g e cs := hb.trans h
theorem CB.far (h : CB w g e cs) {p : Addr} (hp : g ≠ p.block) (u : Value) : CB (w.setCell p u) g e cs := (Below.heap_setCell w p u g hp).trans h
theorem CB.alloc (h : CB w g e cs) (o : Obj) : CB (w.alloc o) g e cs := (Below.heap_alloc w o g h.lt).trans h
theorem CB.ch {S : Nat → Prop} (h : CB w g e cs) (hc : Ch S w w') (hS : ¬ S g) : CB w' g e cs := (hc.block g h.lt hS).trans h
theorem CB.below (h : CB w g e cs) (hb : Below w.heap.size w w') : CB w' g e cs := (hb.block g h.lt).trans h
theorem CB.bx (h : CB w g e cs) (x : BX w) : CB x.w g e cs := h.below x.below
theorem CB.drewN (h : CB w g e cs) (n : Nat) : CB (w.drewN n) g e cs := h
theorem CB.drew (h : CB w g e cs) : CB w.drew g e cs := h
theorem CB.new (w : World) (e : TypeId) (cs : Array Value) : CB (w.alloc (.cells cs e)) w.heap.size e cs := heap_alloc_new w _
theorem CB.new_at (w : World) (e : TypeId) (cs : Array Value) (hg : g = w.heap.size) : CB (w.alloc (.cells cs e)) g e cs := by subst hg; exact CB.new w e cs
end
/-- A slice of n elements of size cells each (or nil), in a block of its own, from some cell on. -/
def Sl (e : TypeId) (size : Nat) (w : World) (A : Option Addr) (n c : Nat) (xs : List Value) : Prop :=
 xs.length = n * size ∧ ((A = none ∧ n = 0 ∧ c = 0) ∨
  ∃ g off cur, A = some ⟨g, off, none⟩ ∧ CB w g e cur ∧ n ≤ c ∧ c ≤ maxLen ∧ off + c * size ≤ cur.size ∧ (cur.toList.drop off).take (n * size) = xs)

section
variable {e : TypeId} {size : Nat} {w w' : World} {A : Option Addr} {n c : Nat} {xs : List Value}
theorem Sl.nil : Sl e size w none 0 0 [] := ⟨by simp, .inl ⟨rfl, rfl, rfl⟩⟩
theorem Sl.lt (h : Sl e size w A n c xs) {b : Nat} (hb : OwnB A b) : b < w.heap.size := by
 rcases h.2 with ⟨rfl, _⟩ | ⟨g, off, cur, rfl, hC, _⟩
 · simp [OwnB] at hb
 · have : g = b := by simpa [OwnB] using hb
   subst this
   exact hC.lt
theorem Sl.keep (h : Sl e size w A n c xs) (hb : ∀ b, OwnB A b → w'.heap[b]? = w.heap[b]?) : Sl e size w' A n c xs := by
 refine ⟨h.1, ?_⟩
 rcases h.2 with h2 | ⟨g, off, cur, hA, hC, r⟩
 · exact .inl h2
 · exact .inr ⟨g, off, cur, hA, hC.keep (hb g (by rw [hA]; simp [OwnB])), r⟩
theorem Sl.ch {S : Nat → Prop} (h : Sl e size w A n c xs) (hc : Ch S w w') (hS : ∀ b, OwnB A b → ¬ S b) : Sl e size w' A n c xs := h.keep fun b hb => hc.block b (h.lt hb) (hS b hb)
theorem Sl.cells (h : Sl e size w A n c xs) : ∀ b, A = some b → ∀ (j : Nat) (u : Value), xs[j]? = some u → w.cell? (b.add j) = some u := by
 intro b hb j u hu
 rcases h.2 with ⟨rfl, _⟩ | ⟨g, off, cur, hA, hC, hn, hm, hfit, ht⟩
 · cases hb
 · rw [hA] at hb
   injection hb with hb
   subst hb
   have h1 : (⟨g, off, none⟩ : Addr).add j = ⟨g, off + j, none⟩ := by unfold Addr.add; split <;> simp_all
   rw [h1, hC.cell]
   rw [← ht] at hu
   have hj : j < n * size := by
    have := (List.getElem?_eq_some_iff.1 hu).1
    simp at this; omega
   rw [List.getElem?_take, if_pos hj, List.getElem?_drop] at hu
   simpa using hu
theorem Sl.at_ (h : Sl e size w A n c xs) {j : Nat} (hj : j < xs.length) : ∃ g off, A = some ⟨g, off, none⟩ ∧ g < w.heap.size ∧ w.cell? ⟨g, off + j, none⟩ = some xs[j] := by
 have hc := h.cells
 rcases h.2 with ⟨_, hn, _⟩ | ⟨g, off, cur, hA, hC, _⟩
 · have := h.1; rw [hn] at this; simp at this; rw [this] at hj; simp at hj
 · have h1 : (⟨g, off, none⟩ : Addr).add j = ⟨g, off + j, none⟩ := by unfold Addr.add; split <;> simp_all
   have := hc _ hA j xs[j] (by simp [hj])
   rw [h1] at this
   exact ⟨g, off, hA, hC.lt, this⟩
/-- The slice from element k on. -/
theorem Sl.drop (h : Sl e size w A n c xs) (k : Nat) (hk : k ≤ n) : ∀ g off, A = some ⟨g, off, none⟩ → Sl e size w (some ⟨g, off + k * size, none⟩) (n - k) (c - k) (xs.drop (k * size)) := by
 intro g0 off0 hA0
 have e1 : (n - k) * size + k * size = n * size := by rw [← Nat.add_mul]; congr 1; omega
 refine ⟨by rw [List.length_drop, h.1]; omega, ?_⟩
 rcases h.2 with ⟨rfl, _⟩ | ⟨g, off, cur, hA, hC, hn, hm, hfit, ht⟩
 · cases hA0
 · rw [hA] at hA0
   injection hA0 with hA0
   injection hA0 with hA0 hA0'
   subst hA0 hA0'
   have e2 : (c - k) * size + k * size = c * size := by rw [← Nat.add_mul]; congr 1; omega
   refine .inr ⟨g, off + k * size, cur, rfl, hC, by omega, by omega, by omega, ?_⟩
   rw [← ht, List.drop_take, List.drop_drop]
   congr 1
   omega
theorem Sl.take (h : Sl e size w A n c xs) (k : Nat) (hk : k ≤ n) : Sl e size w A k c (xs.take (k * size)) := by
 have e1 : (n - k) * size + k * size = n * size := by rw [← Nat.add_mul]; congr 1; omega
 refine ⟨by rw [List.length_take, h.1]; omega, ?_⟩
 rcases h.2 with ⟨rfl, h1, h2⟩ | ⟨g, off, cur, hA, hC, hn, hm, hfit, ht⟩
 · exact .inl ⟨rfl, by omega, h2⟩
 · refine .inr ⟨g, off, cur, hA, hC, by omega, hm, hfit, ?_⟩
   rw [← ht, List.take_take, Nat.min_eq_left (by omega)]
end

theorem ch_setCells (g : Nat) : ∀ (vs : List Value) (o : Nat) (w : World), Ch (At g) w (w.setCells g o vs)
 | [], _, w => Ch.refl _ _
 | v :: r, o, w => ((Ch.refl (At g) w).set1 o v).trans (ch_setCells g r (o + 1) _) (fun _ h _ => h)
theorem cb_setCells {g : Nat} {e : TypeId} : ∀ (vs : List Value) (o : Nat) (w : World) (cur : Array Value), CB w g e cur → o + vs.length ≤ cur.size →
 CB (w.setCells g o vs) g e (cur.toList.take o ++ vs ++ cur.toList.drop (o + vs.length)).toArray
 | [], o, w, cur, h, hl => by
  have : (cur.toList.take o ++ [] ++ cur.toList.drop (o + 0)).toArray = cur := by simp
  simp only [List.length_nil]
  rw [this]; exact h
 | v :: r, o, w, cur, h, hl => by
  simp only [List.length_cons] at hl
  have h1 := cb_setCells r (o + 1) _ _ (h.set o v) (by simp; omega)
  have e1 : ((cur.setIfInBounds o v).toList.take (o + 1) ++ r ++ (cur.setIfInBounds o v).toList.drop (o + 1 + r.length)) = (cur.toList.take o ++ (v :: r) ++ cur.toList.drop (o + (v :: r).length)) := by
   rw [Array.toList_setIfInBounds]
   have ho : o < cur.toList.length := by simp; omega
   rw [List.take_succ_eq_append_getElem (by simpa using ho), List.take_set_of_le (Nat.le_refl o), List.drop_set_of_lt (by omega)]
   simp [Nat.add_assoc, Nat.add_comm 1]
  rw [← e1]
  exact h1

/-- append onto such a slice. -/
theorem run_append_sl {P : Program} (w : World) (t ty e : TypeId) (zv : Value) (size by_ : Nat) (hzs : zv.cells.size = size) (hsz : 0 < size) (ht : P.underlying t = some (.slice e)) (hinfo : (P.info? e).map (fun i => (i.zero, i.size, i.bytes)) = some (some zv, size, by_)) (hby : by_ ≤ 64)
 (A : Option Addr) (n c : Nat) (xs : List Value) (hown : Sl e size w A n c xs) (ad : Addr) (m d : Nat) (ys : List Value) (hm : ys.length = m * size) (hm0 : 0 < m) (hr : ∀ j u, ys[j]? = some u → w.cell? (ad.add j) = some u) (hf : ∀ u ∈ ys, u.oneCell' = true)
 (hbound : n + m ≤ 1000000000) :
 ∃ A' c' w', (Builtin.append_ #[t, t] ty #[.slice A n c, .slice (some ad) m d]).run P w = .ok (.slice A' (n + m) c') w' ∧ Sl e size w' A' (n + m) c' (xs ++ ys) ∧ Ch (OwnB A) w w' ∧ (∀ b, OwnB A' b → OwnB A b ∨ b = w.heap.size) ∧ (c < n + m → A' = some ⟨w.heap.size, 0, none⟩) := by
 cases hi : P.info? e with
 | none => rw [hi] at hinfo; cases hinfo
 | some i =>
  rw [hi] at hinfo
  simp only [Option.map_some, Option.some.injEq, Prod.mk.injEq] at hinfo
  obtain ⟨hz, hs, hb⟩ := hinfo
  subst hs hb
  have hbb : (n + m) * i.bytes ≤ (n + m) * 64 := Nat.mul_le_mul_left _ hby
  have hmx : n + m ≤ maxLen := by unfold maxLen; omega
  have hlen : (xs ++ ys).length = (n + m) * i.size := by rw [List.length_append, hown.1, hm, Nat.add_mul]
  have grown : ∀ (old : Nat), old < n + m → Sl e i.size (w.drew.alloc (.cells (xs.toArray ++ ys.toArray ++ Builtin.zeroCells zv.cells (grownCap w (n + m) old e - (n + m))) e)) (some ⟨w.heap.size, 0, none⟩) (n + m) (grownCap w (n + m) old e) (xs ++ ys) := by
   intro old ho
   have hge := grownCap_ge w (n + m) old e
   have hcm : grownCap w (n + m) old e ≤ maxLen := grownCap_le_maxLen w (n + m) old e hmx
   refine ⟨hlen, .inr ⟨w.heap.size, 0, _, rfl, heap_alloc_new w.drew _, hge, hcm, ?_, ?_⟩⟩
   · simp only [Array.size_append, List.size_toArray, size_zeroCells, hzs, hown.1, hm, ← Nat.add_mul, Nat.zero_add]
     apply Nat.mul_le_mul_right
     omega
   · simp only [Array.toList_append, List.append_assoc, List.drop_zero]
     rw [← List.append_assoc, ← hlen]
     exact List.take_left
  have hCh : ∀ o : Obj, Ch (OwnB A) w (w.drew.alloc o) := fun o => (Ch.drew (Ch.refl _ _)).alloc o
  rcases hown.2 with ⟨rfl, rfl, rfl⟩ | ⟨g, off, cur, rfl, hC, hnc, hcm, hfit, htk⟩
  · have hx : xs = [] := List.eq_nil_of_length_eq_zero (by simpa using hown.1)
    subst hx
    have hrun := run_append_nil (P := P) w t ty e i zv ht hi hz ad m d ys hm hr hm0 (by omega) (by simp only [Nat.zero_add] at hbb; omega)
    have hgr := grown 0 (by omega)
    simp only [Nat.zero_add, List.nil_append, Array.empty_append] at hgr ⊢
    exact ⟨_, _, _, hrun, hgr, hCh _, fun b hb => .inr (by simpa [OwnB] using hb.symm), fun _ => rfl⟩
  · by_cases hroom : n + m ≤ c
    · have e0 : n * i.size + m * i.size ≤ c * i.size := by rw [← Nat.add_mul]; exact Nat.mul_le_mul_right _ hroom
      have hrun := run_append_room_cells (P := P) w t ty e i ht hi g off n c ad m d ys hm hr hf hroom
       (fun j hj => by rw [hC.cell]; have : off + n * i.size + j < cur.size := by omega
                       simp [this]) (fun j hj => hC.frozen _)
      refine ⟨_, _, _, hrun, ⟨hlen, .inr ⟨g, off, _, rfl, cb_setCells ys (off + n * i.size) w cur hC (by omega), hroom, hcm, ?_, ?_⟩⟩, (ch_setCells g ys _ w).mono (fun b hb _ => by unfold At at hb; subst hb; simp [OwnB]), fun b hb => .inl hb, fun h => by omega⟩
      · simp only [List.size_toArray, List.length_append, List.length_take, List.length_drop, Array.length_toList]
        omega
      · rw [← htk, Nat.add_mul]
        have hl1 : (cur.toList.take (off + n * i.size)).length = off + n * i.size := by simp; omega
        simp only [List.append_assoc]
        rw [List.drop_append_of_le_length (by rw [hl1]; omega), List.drop_take]
        rw [show off + n * i.size - off = n * i.size by omega]
        have hl2 : ((cur.toList.drop off).take (n * i.size)).length = n * i.size := by rw [htk]; exact hown.1
        rw [← hm, ← hl2]
        rw [← List.append_assoc]
        rw [show ((cur.toList.drop off).take ((cur.toList.drop off).take (n * i.size)).length) = (cur.toList.drop off).take (n * i.size) by rw [hl2]]
        rw [← List.length_append]
        exact List.take_left
    · have hrun := run_append_grow (P := P) w t ty e i zv ht hi hz ⟨g, off, none⟩ n c xs hown.1 (hown.cells _ rfl) ad m d ys hm hr (by omega) (by omega) (growslice_fits (by omega) (by omega))
      exact ⟨_, _, _, hrun, grown c (by omega), hCh _, fun b hb => .inr (by simpa [OwnB] using hb.symm), fun _ => rfl⟩
/-- A line: how many of its stores are persistent, and the stores after these. -/
structure Ln where
 done : Int
 hist : List (Int × Int)
/-- A thread: its error, its notes, and a bound on their number. -/
structure Thr where
 err : Int
 notes : Int → Option Int
 flu : Nat
/-- A device. -/
structure DevS where
 pers : List Int
 cur : List Int
 lns : List Ln
 thr : Nat → Thr
 off : Bool
 armed : Bool
 left : Int
 exec : Int
/-- Where a device lies. -/
structure Lay where
 pb : Nat
 pc : Nat
 cb : Nat
 cc : Nat
 lb : Nat
 ha : Nat → Option Addr
 hc : Nat → Nat
 t : Nat → Nat
 m : Nat → Nat
 role : Nat → Nat

def uints (xs : List Int) : List Value := xs.map (Value.int .u64)
def wcells (ws : List (Int × Int)) : List Value := ws.flatMap fun p => [.int .u64 p.1, .int .u64 p.2]
def devCells (L : Lay) (S : DevS) : Array Value :=
 #[.slice (some ⟨L.pb, 0, none⟩) S.pers.length L.pc, .slice (some ⟨L.cb, 0, none⟩) S.cur.length L.cc, .slice (some ⟨L.lb, 0, none⟩) S.lns.length S.lns.length,
  .pointer (some ⟨L.t 0, 0, none⟩), .pointer (some ⟨L.t 1, 0, none⟩), .pointer (some ⟨L.t 2, 0, none⟩), .pointer (some ⟨L.t 3, 0, none⟩), .pointer (some ⟨L.t 4, 0, none⟩), .pointer (some ⟨L.t 5, 0, none⟩), .pointer (some ⟨L.t 6, 0, none⟩), .pointer (some ⟨L.t 7, 0, none⟩),
  .bool S.off, .bool S.armed, .int .i64 S.left, .int .u64 S.exec]
def thrCells (d : Nat) (L : Lay) (S : DevS) (i : Nat) : Array Value := #[.pointer (some ⟨d, 0, none⟩), .int .i64 (i : Int), .int .i64 (S.thr i).err, .map (some (L.m i))]

/-- A map of notes. -/
def NMap (w : World) (b : Nat) (nt : Int → Option Int) (n : Nat) : Prop :=
 ∃ D : DataW Unit, w.ownsMap Tryz.prog 3 (plainElem Tryz.prog 34) b n D ∧
  ∀ x, (Lit.int .i64 x).wf = true → Maps.has D (.int .i64 x) = (nt x).isSome ∧ ∀ c, nt x = some c → ∀ z, D.atKey (.int .i64 x) z = .lit (.int .u64 c)
theorem NMap.keep {w w' : World} {b : Nat} {nt : Int → Option Int} {n : Nat} (h : NMap w b nt n) (hb : w'.heap[b]? = w.heap[b]?) : NMap w' b nt n := by
 obtain ⟨D, ⟨es, clock, h1, r⟩, h2⟩ := h
 exact ⟨D, ⟨es, clock, hb.trans h1, r⟩, h2⟩
theorem NMap.lt {w : World} {b : Nat} {nt : Int → Option Int} {n : Nat} (h : NMap w b nt n) : b < w.heap.size := by
 obtain ⟨D, h1, _⟩ := h
 exact h1.lt

structure Dev (w : World) (d : Nat) (L : Lay) (S : DevS) : Prop where
 dev : CB w d 100 (devCells L S)
 pers : Sl 34 1 w (some ⟨L.pb, 0, none⟩) S.pers.length L.pc (uints S.pers)
 cur : Sl 34 1 w (some ⟨L.cb, 0, none⟩) S.cur.length L.cc (uints S.cur)
 np : S.pers.length = 8 * S.lns.length
 nc : S.cur.length = 8 * S.lns.length
 nl : 1 ≤ S.lns.length ∧ S.lns.length ≤ 4096
 lf : 0 ≤ S.left ∧ S.left < 9223372036854775808
 ex : 0 ≤ S.exec ∧ S.exec < 18446744073709551616
 lin : ∃ cs, CB w L.lb 178 cs ∧ cs.size = 2 * S.lns.length ∧ ∀ i (h : i < S.lns.length), cs[2 * i]? = some (.int .u64 S.lns[i].done) ∧ cs[2 * i + 1]? = some (.slice (L.ha i) S.lns[i].hist.length (L.hc i))
 his : ∀ i (h : i < S.lns.length), Sl 122 2 w (L.ha i) S.lns[i].hist.length (L.hc i) (wcells S.lns[i].hist)
 thr : ∀ i, i < 8 → CB w (L.t i) 141 (thrCells d L S i)
 nts : ∀ i, i < 8 → NMap w (L.m i) (S.thr i).notes (S.thr i).flu
 rd : L.role d = 1
 rp : L.role L.pb = 2
 rc : L.role L.cb = 3
 rl : L.role L.lb = 4
 rt : ∀ i, i < 8 → L.role (L.t i) = 5 + i
 rm : ∀ i, i < 8 → L.role (L.m i) = 13 + i
 rh : ∀ i, i < S.lns.length → ∀ b, OwnB (L.ha i) b → L.role b = 21 + i
 fr : ∀ b, L.role b ≠ 0 → b < w.heap.size

/-- The blocks of a device. -/
def Fp (L : Lay) (b : Nat) : Prop := L.role b ≠ 0

section
variable {w w' : World} {d : Nat} {L : Lay} {S : DevS}
theorem Dev.keep (h : Dev w d L S) (hb : ∀ b, Fp L b → w'.heap[b]? = w.heap[b]?) (hs : w.heap.size ≤ w'.heap.size) : Dev w' d L S where
 dev := h.dev.keep (hb d (by unfold Fp; rw [h.rd]; omega))
 pers := h.pers.keep fun b hb' => hb b (by have : L.pb = b := by simpa [OwnB] using hb'
                                           subst this; unfold Fp; rw [h.rp]; omega)
 cur := h.cur.keep fun b hb' => hb b (by have : L.cb = b := by simpa [OwnB] using hb'
                                         subst this; unfold Fp; rw [h.rc]; omega)
 np := h.np
 nc := h.nc
 nl := h.nl
 lf := h.lf
 ex := h.ex
 lin := by
  obtain ⟨cs, h1, h2⟩ := h.lin
  exact ⟨cs, h1.keep (hb _ (by unfold Fp; rw [h.rl]; omega)), h2⟩
 his := fun i hi => (h.his i hi).keep fun b hb' => hb b (by unfold Fp; rw [h.rh i hi b hb']; omega)
 thr := fun i hi => (h.thr i hi).keep (hb _ (by unfold Fp; rw [h.rt i hi]; omega))
 nts := fun i hi => (h.nts i hi).keep (hb _ (by unfold Fp; rw [h.rm i hi]; omega))
 rd := h.rd
 rp := h.rp
 rc := h.rc
 rl := h.rl
 rt := h.rt
 rm := h.rm
 rh := h.rh
 fr := fun b hb' => Nat.lt_of_lt_of_le (h.fr b hb') hs
theorem Dev.ch {T : Nat → Prop} (h : Dev w d L S) (hc : Ch T w w') (hT : ∀ b, Fp L b → ¬ T b) : Dev w' d L S := h.keep (fun b hb => hc.block b (h.fr b hb) (hT b hb)) hc.size
theorem Dev.below (h : Dev w d L S) (hb : Below w.heap.size w w') : Dev w' d L S := h.keep (fun b hb' => hb.block b (h.fr b hb')) hb.size
theorem Dev.bx (h : Dev w d L S) (x : BX w) : Dev x.w d L S := h.below x.below
theorem Dev.alloc (h : Dev w d L S) (o : Obj) : Dev (w.alloc o) d L S := h.below (bl_alloc (Below.refl _ _) _)
theorem Dev.drewN (h : Dev w d L S) (n : Nat) : Dev (w.drewN n) d L S := h.keep (fun _ _ => rfl) (Nat.le_refl _)
theorem Dev.lt (h : Dev w d L S) : d < w.heap.size := h.dev.lt
theorem Dev.tlt (h : Dev w d L S) {i : Nat} (hi : i < 8) : L.t i < w.heap.size := (h.thr i hi).lt
/-- The cell of the pointer to a thread. -/
theorem Dev.tcell (h : Dev w d L S) {i : Nat} (hi : i < 8) : w.cell? ⟨d, 3 + i, none⟩ = some (.pointer (some ⟨L.t i, 0, none⟩)) := by
 rw [h.dev.cell]
 have : i = 0 ∨ i = 1 ∨ i = 2 ∨ i = 3 ∨ i = 4 ∨ i = 5 ∨ i = 6 ∨ i = 7 := by omega
 rcases this with rfl | rfl | rfl | rfl | rfl | rfl | rfl | rfl <;> rfl
end
def imin (x y : Int) : Int := if y < x then y else x
def imax (x y : Int) : Int := if x < y then y else x
section
variable {P : Program} (w : World)
@[go_sem high] theorem run_min_imin (ts : Array TypeId) (t : TypeId) (k k' : IntKind) (x y : Int) : (Builtin.min_ ts t #[.int k x, .int k' y]).run P w = .ok (.int k (imin x y)) w := run_min_int2 w ts t k k' x y
@[go_sem high] theorem run_max_imax (ts : Array TypeId) (t : TypeId) (k k' : IntKind) (x y : Int) : (Builtin.max_ ts t #[.int k x, .int k' y]).run P w = .ok (.int k (imax x y)) w := run_max_int2 w ts t k k' x y
end
section
variable {w w' : World} {d : Nat} {L : Lay} {S S' : DevS}
/-- The block of one thread has changed. -/
theorem Dev.setThr (h : Dev w d L S) {i : Nat} (hi : i < 8) (hb : ∀ b, Fp L b → b ≠ L.t i → w'.heap[b]? = w.heap[b]?) (hs : w.heap.size ≤ w'.heap.size) (e : Int)
 (hc : CB w' (L.t i) 141 #[.pointer (some ⟨d, 0, none⟩), .int .i64 (i : Int), .int .i64 e, .map (some (L.m i))]) :
 Dev w' d L { S with thr := fun j => if j = i then { S.thr i with err := e } else S.thr j } := by
 have hne : ∀ b, Fp L b → L.role b ≠ 5 + i → w'.heap[b]? = w.heap[b]? := fun b hf hr => hb b hf (by rintro rfl; exact hr (h.rt i hi))
 refine { dev := h.dev.keep (hne d (by unfold Fp; rw [h.rd]; omega) (by rw [h.rd]; omega)), pers := h.pers.keep fun b hb' => ?_, cur := h.cur.keep fun b hb' => ?_, np := h.np, nc := h.nc, nl := h.nl, lf := h.lf, ex := h.ex, lin := ?_, his := fun j hj => (h.his j hj).keep fun b hb' => hne b (by unfold Fp; rw [h.rh j hj b hb']; omega) (by rw [h.rh j hj b hb']; omega), thr := fun j hj => ?_, nts := fun j hj => ?_, rd := h.rd, rp := h.rp, rc := h.rc, rl := h.rl, rt := h.rt, rm := h.rm, rh := h.rh, fr := fun b hb' => Nat.lt_of_lt_of_le (h.fr b hb') hs }
 · have : L.pb = b := by simpa [OwnB] using hb'
   subst this
   exact hne _ (by unfold Fp; rw [h.rp]; omega) (by rw [h.rp]; omega)
 · have : L.cb = b := by simpa [OwnB] using hb'
   subst this
   exact hne _ (by unfold Fp; rw [h.rc]; omega) (by rw [h.rc]; omega)
 · obtain ⟨cs, h1, h2⟩ := h.lin
   exact ⟨cs, h1.keep (hne _ (by unfold Fp; rw [h.rl]; omega) (by rw [h.rl]; omega)), h2⟩
 · by_cases hji : j = i
   · subst hji
     simpa [thrCells] using hc
   · have := (h.thr j hj).keep (hne _ (by unfold Fp; rw [h.rt j hj]; omega) (by rw [h.rt j hj]; omega))
     simpa [thrCells, hji] using this
 · have := (h.nts j hj).keep (hne _ (by unfold Fp; rw [h.rm j hj]; omega) (by rw [h.rm j hj]; omega))
   by_cases hji : j = i
   · subst hji; simpa using this
   · simpa [hji] using this
/-- The device's own block has changed. -/
theorem Dev.setDev (h : Dev w d L S) (hb : ∀ b, Fp L b → b ≠ d → w'.heap[b]? = w.heap[b]?) (hs : w.heap.size ≤ w'.heap.size) (off armed : Bool) (left exec : Int) (hlf : 0 ≤ left ∧ left < 9223372036854775808) (hex : 0 ≤ exec ∧ exec < 18446744073709551616)
 (hc : CB w' d 100 (devCells L { S with off := off, armed := armed, left := left, exec := exec })) :
 Dev w' d L { S with off := off, armed := armed, left := left, exec := exec } := by
 have hne : ∀ b, Fp L b → L.role b ≠ 1 → w'.heap[b]? = w.heap[b]? := fun b hf hr => hb b hf (by rintro rfl; exact hr h.rd)
 refine { dev := hc, pers := h.pers.keep fun b hb' => ?_, cur := h.cur.keep fun b hb' => ?_, np := h.np, nc := h.nc, nl := h.nl, lf := hlf, ex := hex, lin := ?_, his := fun j hj => (h.his j hj).keep fun b hb' => hne b (by unfold Fp; rw [h.rh j hj b hb']; omega) (by rw [h.rh j hj b hb']; omega), thr := fun j hj => (h.thr j hj).keep (hne _ (by unfold Fp; rw [h.rt j hj]; omega) (by rw [h.rt j hj]; omega)), nts := fun j hj => (h.nts j hj).keep (hne _ (by unfold Fp; rw [h.rm j hj]; omega) (by rw [h.rm j hj]; omega)), rd := h.rd, rp := h.rp, rc := h.rc, rl := h.rl, rt := h.rt, rm := h.rm, rh := h.rh, fr := fun b hb' => Nat.lt_of_lt_of_le (h.fr b hb') hs }
 · have : L.pb = b := by simpa [OwnB] using hb'
   subst this
   exact hne _ (by unfold Fp; rw [h.rp]; omega) (by rw [h.rp]; omega)
 · have : L.cb = b := by simpa [OwnB] using hb'
   subst this
   exact hne _ (by unfold Fp; rw [h.rc]; omega) (by rw [h.rc]; omega)
 · obtain ⟨cs, h1, h2⟩ := h.lin
   exact ⟨cs, h1.keep (hne _ (by unfold Fp; rw [h.rl]; omega) (by rw [h.rl]; omega)), h2⟩
theorem Dev.ccell (h : Dev w d L S) : w.cell? ⟨d, 1, none⟩ = some (.slice (some ⟨L.cb, 0, none⟩) S.cur.length L.cc) := h.dev.cell 1
theorem Dev.lcell (h : Dev w d L S) : w.cell? ⟨d, 2, none⟩ = some (.slice (some ⟨L.lb, 0, none⟩) S.lns.length S.lns.length) := h.dev.cell 2
theorem Dev.ocell (h : Dev w d L S) : w.cell? ⟨d, 11, none⟩ = some (.bool S.off) := h.dev.cell 11
theorem Dev.acell (h : Dev w d L S) : w.cell? ⟨d, 12, none⟩ = some (.bool S.armed) := h.dev.cell 12
theorem Dev.fcell (h : Dev w d L S) : w.cell? ⟨d, 13, none⟩ = some (.int .i64 S.left) := h.dev.cell 13
theorem Dev.xcell (h : Dev w d L S) : w.cell? ⟨d, 14, none⟩ = some (.int .u64 S.exec) := h.dev.cell 14
theorem Dev.t0 (h : Dev w d L S) {i : Nat} (hi : i < 8) : w.cell? ⟨L.t i, 0, none⟩ = some (.pointer (some ⟨d, 0, none⟩)) := (h.thr i hi).cell 0
theorem Dev.t1 (h : Dev w d L S) {i : Nat} (hi : i < 8) : w.cell? ⟨L.t i, 1, none⟩ = some (.int .i64 (i : Int)) := (h.thr i hi).cell 1
theorem Dev.t2 (h : Dev w d L S) {i : Nat} (hi : i < 8) : w.cell? ⟨L.t i, 2, none⟩ = some (.int .i64 (S.thr i).err) := (h.thr i hi).cell 2
theorem Dev.t3 (h : Dev w d L S) {i : Nat} (hi : i < 8) : w.cell? ⟨L.t i, 3, none⟩ = some (.map (some (L.m i))) := (h.thr i hi).cell 3
end

def DevS.setErr (S : DevS) (i : Nat) (e : Int) : DevS := { S with thr := fun j => if j = i then { S.thr i with err := e } else S.thr j }
def DevS.fail (S : DevS) (i : Nat) (e : Int) : DevS := if (S.thr i).err = 0 then S.setErr i e else S

set_option maxHeartbeats 400000 in
theorem devLines (w : World) (d : Nat) (L : Lay) (S : DevS) (h : Dev w d L S) :
 Calls Tryz.prog 103 #[.pointer (some ⟨d, 0, none⟩)] w fun e w' => e = .returned (.int .i64 (S.lns.length : Int)) ∧ w = w' := by
 have h2 := h.lcell
 have hl := h.lt
 clear h
 go_enter Tryz.func103, Tryz.ntmps103
 go_wp2
 go_ret
 exact ⟨rfl, rfl⟩

set_option maxHeartbeats 400000 in
theorem devSize (w : World) (d : Nat) (L : Lay) (S : DevS) (h : Dev w d L S) :
 Calls Tryz.prog 77 #[.pointer (some ⟨d, 0, none⟩)] w fun e w' => e = .returned (.int .u64 ((S.lns.length : Int) * 64)) ∧ w = w' := by
 have hn := h.nl
 have H := Lib.hid h
 have e1 : IntKind.u64.wrap (S.lns.length : Int) = (S.lns.length : Int) := IntWalk.u64_in _ (by omega)
 have e2 : IntKind.u64.wrap ((S.lns.length : Int) * 64) = (S.lns.length : Int) * 64 := IntWalk.u64_in _ (by omega)
 clear h
 go_enter Tryz.func77, Tryz.ntmps77
 go_wp2_with (go_at_call 103; refine (devLines _ d L S H.out).mono ?_; rintro e w' ⟨rfl, rfl⟩)
 go_ret
 exact ⟨rfl, rfl⟩

set_option maxHeartbeats 400000 in
theorem devThread (w : World) (d : Nat) (L : Lay) (S : DevS) (h : Dev w d L S) (i : Nat) (hi : i < 8) :
 Calls Tryz.prog 35 #[.pointer (some ⟨d, 0, none⟩), .int .i64 (i : Int)] w fun e w' => e = .returned (.pointer (some ⟨L.t i, 0, none⟩)) ∧ w = w' := by
 have ht := h.tcell hi
 have hl := h.lt
 have h1 : ¬ (8 : Int) ≤ (i : Int) := by omega
 clear h
 go_enter Tryz.func35, Tryz.ntmps35
 go_wp2
 go_ret
 exact ⟨rfl, rfl⟩

set_option maxHeartbeats 400000 in
theorem thErr (w : World) (d : Nat) (L : Lay) (S : DevS) (h : Dev w d L S) (i : Nat) (hi : i < 8) :
 Calls Tryz.prog 62 #[.pointer (some ⟨L.t i, 0, none⟩)] w fun e w' => e = .returned (.int .i64 (S.thr i).err) ∧ w = w' := by
 have h0 := h.t0 hi
 have h2 := h.t2 hi
 have hl := h.tlt hi
 clear h
 go_enter Tryz.func62, Tryz.ntmps62
 go_wp2
 go_ret
 exact ⟨rfl, rfl⟩

set_option maxHeartbeats 400000 in
theorem thSize (w : World) (d : Nat) (L : Lay) (S : DevS) (h : Dev w d L S) (i : Nat) (hi : i < 8) :
 Calls Tryz.prog 182 #[.pointer (some ⟨L.t i, 0, none⟩)] w fun e w' => e = .returned (.int .u64 ((S.lns.length : Int) * 64)) ∧ w = w' := by
 have h0 := h.t0 hi
 have hl := h.tlt hi
 have H := Lib.hid h
 clear h
 go_enter Tryz.func182, Tryz.ntmps182
 go_wp2_with (go_at_call 77; refine (devSize _ d L S H.out).mono ?_; rintro e w' ⟨rfl, rfl⟩)
 go_ret
 exact ⟨rfl, rfl⟩
def DevS.wordB (S : DevS) (off : Int) : Bool := decide (off % 8 = 0) && decide (off < (S.lns.length : Int) * 64)
/-- Is an instruction executed? -/
def DevS.onB (S : DevS) (valid : Bool) : Bool := !S.off && valid
def DevS.on (S : DevS) (i : Nat) (valid : Bool) : DevS := if S.off then S.fail i 3 else if valid then S else S.fail i 2

theorem ch_fp_t {w w' : World} {d : Nat} {L : Lay} {S : DevS} (h : Dev w d L S) {i : Nat} (hi : i < 8) (k : Nat) (v : Value) : Ch (Fp L) w (w.setCell ⟨L.t i, k, none⟩ v) :=
 (Ch.refl _ _).setCell (a := ⟨L.t i, k, none⟩) (.inl (by show Fp L (L.t i); unfold Fp; rw [h.rt i hi]; omega)) v
theorem ch_fp_d {w w' : World} {d : Nat} {L : Lay} {S : DevS} (h : Dev w d L S) (k : Nat) (v : Value) : Ch (Fp L) w (w.setCell ⟨d, k, none⟩ v) :=
 (Ch.refl _ _).setCell (a := ⟨d, k, none⟩) (.inl (by show Fp L d; unfold Fp; rw [h.rd]; omega)) v

set_option maxHeartbeats 400000 in
theorem thFail (w : World) (d : Nat) (L : Lay) (S : DevS) (h : Dev w d L S) (i : Nat) (hi : i < 8) (x : Int) :
 Calls Tryz.prog 106 #[.pointer (some ⟨L.t i, 0, none⟩), .int .i64 x] w fun e w' => e = .returned (.tuple #[]) ∧ Dev w' d L (S.fail i x) ∧ Ch (Fp L) w w' := by
 have h2 := h.t2 hi
 have hf := (h.thr i hi).frozen 2
 have hl := h.tlt hi
 have H := Lib.hid h
 clear h
 by_cases he : (S.thr i).err = 0
 · have he' : ((S.thr i).err == 0) = true := by simpa using he
   have HE : Hid (S.fail i x = S.setErr i x) := by show _ = _; unfold DevS.fail; rw [if_pos he]
   clear he
   go_enter Tryz.func106, Tryz.ntmps106
   go_wp2
   go_end0
   rw [HE.out]
   refine ⟨rfl, H.out.setThr hi (fun b _ hb => Below.heap_setCell w ⟨L.t i, 2, none⟩ _ b hb) (by simp) x ?_, ch_fp_t (w' := w) H.out hi 2 _⟩
   exact (H.out.thr i hi).set 2 (.int .i64 x)
 · have he' : ((S.thr i).err == 0) = false := by simpa using he
   have HE : Hid (S.fail i x = S) := by show _ = _; unfold DevS.fail; rw [if_neg he]
   clear he
   go_enter Tryz.func106, Tryz.ntmps106
   go_wp2
   go_end0
   rw [HE.out]
   exact ⟨rfl, H.out, Ch.refl _ _⟩

set_option maxHeartbeats 400000 in
theorem thOn (w : World) (d : Nat) (L : Lay) (S : DevS) (h : Dev w d L S) (i : Nat) (hi : i < 8) (valid : Bool) :
 Calls Tryz.prog 84 #[.pointer (some ⟨L.t i, 0, none⟩), .bool valid] w fun e w' => e = .returned (.bool (S.onB valid)) ∧ Dev w' d L (S.on i valid) ∧ Ch (Fp L) w w' := by
 have h0 := h.t0 hi
 have ho := h.ocell
 have hl := h.tlt hi
 have hl2 := h.lt
 have H := Lib.hid h
 clear h
 cases hO : S.off
 · rw [hO] at ho
   cases valid
   · have HE : Hid (S.onB false = false ∧ S.on i false = S.fail i 2) := by show _ ∧ _; simp [DevS.onB, DevS.on, hO]
     clear hO
     go_enter Tryz.func84, Tryz.ntmps84
     go_wp2_with (go_at_call 106; refine (thFail _ d L S H.out i hi 2).mono ?_; rintro e w' ⟨rfl, hD, hC⟩; have HD := Lib.hid hD; have HC := Lib.hid hC; clear hD hC)
     go_ret
     rw [HE.out.1, HE.out.2]
     exact ⟨rfl, HD.out, HC.out⟩
   · have HE : Hid (S.onB true = true ∧ S.on i true = S) := by show _ ∧ _; simp [DevS.onB, DevS.on, hO]
     clear hO
     go_enter Tryz.func84, Tryz.ntmps84
     go_wp2
     go_ret
     rw [HE.out.1, HE.out.2]
     exact ⟨rfl, H.out, Ch.refl _ _⟩
 · rw [hO] at ho
   have HE : Hid (S.onB valid = false ∧ S.on i valid = S.fail i 3) := by show _ ∧ _; simp [DevS.onB, DevS.on, hO]
   clear hO
   go_enter Tryz.func84, Tryz.ntmps84
   go_wp2_with (go_at_call 106; refine (thFail _ d L S H.out i hi 3).mono ?_; rintro e w' ⟨rfl, hD, hC⟩; have HD := Lib.hid hD; have HC := Lib.hid hC; clear hD hC)
   go_ret
   rw [HE.out.1, HE.out.2]
   exact ⟨rfl, HD.out, HC.out⟩

set_option maxHeartbeats 400000 in
theorem thWord (w : World) (d : Nat) (L : Lay) (S : DevS) (h : Dev w d L S) (i : Nat) (hi : i < 8) (off : Int) (hoff : 0 ≤ off ∧ off < 18446744073709551616) :
 Calls Tryz.prog 85 #[.pointer (some ⟨L.t i, 0, none⟩), .int .u64 off] w fun e w' => e = .returned (.bool (S.wordB off)) ∧ w = w' := by
 have h0 := h.t0 hi
 have hl := h.tlt hi
 have H := Lib.hid h
 obtain ⟨o1, o2⟩ := hoff
 clear h
 by_cases h8 : off % 8 = 0
 · have h8' : (off % 8 == 0) = true := by simpa using h8
   have HE : Hid (S.wordB off = decide (off < (S.lns.length : Int) * 64)) := by show _ = _; simp [DevS.wordB, h8]
   clear h8
   go_enter Tryz.func85, Tryz.ntmps85
   go_wp2_with (go_at_call 77; refine (devSize _ d L S H.out).mono ?_; rintro e w' ⟨rfl, rfl⟩)
   go_ret
   rw [HE.out]
   exact ⟨rfl, rfl⟩
 · have h8' : (off % 8 == 0) = false := by simpa using h8
   have HE : Hid (S.wordB off = false) := by show _ = _; simp [DevS.wordB, h8]
   clear h8
   go_enter Tryz.func85, Tryz.ntmps85
   go_wp2
   go_ret
   rw [HE.out]
   exact ⟨rfl, rfl⟩

/-- Is a counted instruction executed? -/
def DevS.cntB (S : DevS) (valid : Bool) : Bool := S.onB valid && !(S.armed && S.left == 0)
def DevS.cnt (S : DevS) (i : Nat) (valid : Bool) : DevS :=
 if S.onB valid = false then S.on i valid
 else if S.armed then (if S.left = 0 then DevS.fail { S with off := true } i 3 else { S with left := S.left - 1, exec := IntKind.u64.wrap (S.exec + 1) })
 else { S with exec := IntKind.u64.wrap (S.exec + 1) }
theorem wrap_u64_range (x : Int) : 0 ≤ IntKind.u64.wrap x ∧ IntKind.u64.wrap x < 18446744073709551616 := by rw [IntKind.wrap_u64]; omega

set_option maxHeartbeats 1000000 in
theorem thCounted (w : World) (d : Nat) (L : Lay) (S : DevS) (h : Dev w d L S) (i : Nat) (hi : i < 8) (valid : Bool) :
 Calls Tryz.prog 113 #[.pointer (some ⟨L.t i, 0, none⟩), .bool valid] w fun e w' => e = .returned (.bool (S.cntB valid)) ∧ Dev w' d L (S.cnt i valid) ∧ Ch (Fp L) w w' := by
 have H := Lib.hid h
 have hlf := h.lf
 clear h
 cases hon : S.onB valid
 · have HE : Hid (S.cntB valid = false ∧ S.cnt i valid = S.on i valid) := by show _ ∧ _; simp [DevS.cntB, DevS.cnt, hon]
   go_enter Tryz.func113, Tryz.ntmps113
   go_wp2_with (go_at_call 84; refine (thOn _ d L S H.out i hi valid).mono ?_; rw [hon]; rintro e w' ⟨rfl, hD, hC⟩; have HD := Lib.hid hD; have HC := Lib.hid hC; clear hD hC)
   go_ret
   rw [HE.out.1, HE.out.2]
   exact ⟨rfl, HD.out, HC.out⟩
 · have hSo : S.on i valid = S := by
    unfold DevS.onB at hon
    simp only [Bool.and_eq_true, Bool.not_eq_true'] at hon
    simp [DevS.on, hon.1, hon.2]
   have HSo := Lib.hid hSo
   have HON := Lib.hid hon
   clear hSo hon
   have hcall : Calls Tryz.prog 84 #[.pointer (some ⟨L.t i, 0, none⟩), .bool valid] w fun e w' => e = .returned (.bool true) ∧ Dev w' d L S ∧ Ch (Fp L) w w' := by
    have := thOn w d L S H.out i hi valid
    rwa [HON.out, HSo.out] at this
   have HCL := Lib.hid hcall
   clear hcall
   cases hA : S.armed
   · have HE : Hid (S.cntB valid = true ∧ S.cnt i valid = { S with exec := IntKind.u64.wrap (S.exec + 1) }) := by show _ ∧ _; simp [DevS.cntB, DevS.cnt, HON.out, hA]
     go_enter Tryz.func113, Tryz.ntmps113
     go_wp2_with (go_at_call 84; refine HCL.out.mono ?_; rintro e w1 ⟨rfl, hD, hC⟩; have k0 := hD.t0 hi; have k1 := hD.tlt hi; have k2 := hD.lt; have k3 := hD.acell; have k4 := hD.xcell; have k5 := hD.dev.frozen 14; rw [hA] at k3; have HD := Lib.hid hD; have HC := Lib.hid hC; clear hD hC)
     go_ret
     rw [HE.out.1, HE.out.2]
     refine ⟨rfl, HD.out.setDev (fun b _ hb => Below.heap_setCell w1 ⟨d, 14, none⟩ _ b hb) (by simp) S.off S.armed S.left _ HD.out.lf (wrap_u64_range _) ?_, HC.out.trans (ch_fp_d (w' := w) HD.out 14 _) (fun _ h _ => h)⟩
     exact HD.out.dev.set 14 _
   · by_cases hz : S.left = 0
     · have HE : Hid (S.cntB valid = false ∧ S.cnt i valid = DevS.fail { S with off := true } i 3) := by show _ ∧ _; simp [DevS.cntB, DevS.cnt, HON.out, hA, hz]
       have HZ := Lib.hid hz
       clear hz
       go_enter Tryz.func113, Tryz.ntmps113
       go_wp2_with (go_at_call 84; refine HCL.out.mono ?_; rintro e w1 ⟨rfl, hD, hC⟩; have k0 := hD.t0 hi; have k1 := hD.tlt hi; have k2 := hD.lt; have k3 := hD.acell; have k4 := hD.fcell; have k6 := hD.ocell; have k5 := hD.dev.frozen 11; rw [hA] at k3; rw [HZ.out] at k4; have HD := Lib.hid hD; have HC := Lib.hid hC; clear hD hC)
       have hD2 : Dev (w1.setCell ⟨d, 11, none⟩ (.bool true)) d L { S with off := true } := HD.out.setDev (fun b _ hb => Below.heap_setCell w1 ⟨d, 11, none⟩ _ b hb) (by simp) true S.armed S.left S.exec HD.out.lf HD.out.ex (HD.out.dev.set 11 _)
       refine (thFail _ d L { S with off := true } hD2 i hi 3).mono ?_
       rintro e w2 ⟨rfl, hD3, hC3⟩
       have HD3 := Lib.hid hD3
       have HC3 := Lib.hid hC3
       clear hD2 hD3 hC3
       go_wp2
       go_ret
       rw [HE.out.1, HE.out.2]
       exact ⟨rfl, HD3.out, (HC.out.trans (ch_fp_d (w' := w) HD.out 11 _) (fun _ h _ => h)).trans HC3.out (fun _ h _ => h)⟩
     · have HE : Hid (S.cntB valid = true ∧ S.cnt i valid = { S with left := S.left - 1, exec := IntKind.u64.wrap (S.exec + 1) }) := by show _ ∧ _; simp [DevS.cntB, DevS.cnt, HON.out, hA, hz]
       have hz' : (S.left == 0) = false := by simpa using hz
       have hl1 : 1 ≤ S.left := by omega
       have hl2 : S.left ≤ 9223372036854775807 := by omega
       clear hz
       go_enter Tryz.func113, Tryz.ntmps113
       go_wp2_with (go_at_call 84; refine HCL.out.mono ?_; rintro e w1 ⟨rfl, hD, hC⟩; have k0 := hD.t0 hi; have k1 := hD.tlt hi; have k2 := hD.lt; have k3 := hD.acell; have k4 := hD.fcell; have k6 := hD.xcell; have k5 := hD.dev.frozen 13; have k7 := hD.dev.frozen 14; rw [hA] at k3; have HD := Lib.hid hD; have HC := Lib.hid hC; clear hD hC)
       go_ret
       rw [HE.out.1, HE.out.2]
       refine ⟨rfl, HD.out.setDev (fun b _ hb => (Below.heap_setCell _ ⟨d, 14, none⟩ _ b hb).trans (Below.heap_setCell w1 ⟨d, 13, none⟩ _ b hb)) (by simp) S.off S.armed _ _ (by omega) (wrap_u64_range _) ?_, (HC.out.trans (ch_fp_d (w' := w) HD.out 13 _) (fun _ h _ => h)).setCell (a := ⟨d, 14, none⟩) (.inl (by show Fp L d; unfold Fp; rw [HD.out.rd]; omega)) _⟩
       exact (HD.out.dev.set 13 _).set 14 _

def DevS.load (S : DevS) (off : Int) : Int := if S.onB (S.wordB off) then S.cur[(off / 8).toNat]?.getD 0 else 0

theorem length_uints (xs : List Int) : (uints xs).length = xs.length := by simp [uints]
theorem get_uints (xs : List Int) (k : Nat) (h : k < xs.length) : (uints xs)[k]'(by rw [length_uints]; exact h) = .int .u64 xs[k] := by simp [uints]
theorem Dev.cword {w : World} {d : Nat} {L : Lay} {S : DevS} (h : Dev w d L S) {k : Nat} (hk : k < S.cur.length) : w.cell? ⟨L.cb, k, none⟩ = some (.int .u64 S.cur[k]) := by
 obtain ⟨g, off, hA, _, hc⟩ := h.cur.at_ (j := k) (by rw [length_uints]; exact hk)
 injection hA with hA
 injection hA with hA hA'
 subst hA hA'
 rw [get_uints _ k hk, Nat.zero_add] at hc
 exact hc
theorem Dev.cblt {w : World} {d : Nat} {L : Lay} {S : DevS} (h : Dev w d L S) : L.cb < w.heap.size := h.fr _ (by rw [h.rc]; omega)
theorem wordB_true {S : DevS} {off : Int} (h : S.wordB off = true) (h0 : 0 ≤ off) : ∃ k : Nat, off = 8 * (k : Int) ∧ off / 8 = (k : Int) ∧ k < 8 * S.lns.length := by
 unfold DevS.wordB at h
 simp only [Bool.and_eq_true, decide_eq_true_eq] at h
 refine ⟨(off / 8).toNat, by omega, by omega, by omega⟩

set_option maxHeartbeats 1000000 in
theorem thLoad (w : World) (d : Nat) (L : Lay) (S : DevS) (h : Dev w d L S) (i : Nat) (hi : i < 8) (off : Int) (hoff : 0 ≤ off ∧ off < 18446744073709551616) :
 Calls Tryz.prog 61 #[.pointer (some ⟨L.t i, 0, none⟩), .int .u64 off] w fun e w' => e = .returned (.int .u64 (S.load off)) ∧ Dev w' d L (S.on i (S.wordB off)) ∧ Ch (Fp L) w w' := by
 have h0 := h.t0 hi
 have hl := h.tlt hi
 have H := Lib.hid h
 have HOF := Lib.hid hoff
 obtain ⟨o1, o2⟩ := hoff
 clear h
 obtain ⟨b, hb⟩ : ∃ b, S.wordB off = b := ⟨_, rfl⟩
 have HWD : Hid (Calls Tryz.prog 85 #[.pointer (some ⟨L.t i, 0, none⟩), .int .u64 off] w fun e w' => e = .returned (.bool b) ∧ w = w') := by
  have := thWord w d L S H.out i hi off HOF.out
  rwa [hb] at this
 cases hon : S.onB b
 · have HE : Hid (S.load off = 0 ∧ S.on i (S.wordB off) = S.on i b) := by show _ ∧ _; simp [DevS.load, hb, hon]
   have HON : Hid (Calls Tryz.prog 84 #[.pointer (some ⟨L.t i, 0, none⟩), .bool b] w fun e w' => e = .returned (.bool false) ∧ Dev w' d L (S.on i b) ∧ Ch (Fp L) w w') := by
    have := thOn w d L S H.out i hi b
    rwa [hon] at this
   clear hb hon
   go_enter Tryz.func61, Tryz.ntmps61
   go_wp2_with (first | (go_at_call 85; refine HWD.out.mono ?_; rintro e w' ⟨rfl, rfl⟩) | (go_at_call 84; refine HON.out.mono ?_; rintro e w1 ⟨rfl, hD, hC⟩; have HD := Lib.hid hD; have HC := Lib.hid hC; clear hD hC))
   go_ret
   rw [HE.out.1, HE.out.2]
   exact ⟨rfl, HD.out, HC.out⟩
 · have hSo : S.on i b = S ∧ b = true := by
    unfold DevS.onB at hon
    simp only [Bool.and_eq_true, Bool.not_eq_true'] at hon
    simp [DevS.on, hon.1, hon.2]
   obtain ⟨hSo, rfl⟩ := hSo
   obtain ⟨k, hk1, hk2, hk3⟩ := wordB_true hb o1
   have hkc : k < S.cur.length := by rw [H.out.nc]; exact hk3
   have HE : Hid (S.load off = S.cur[k] ∧ S.on i (S.wordB off) = S) := by
    show _ ∧ _
    refine ⟨?_, by rw [hb]; exact hSo⟩
    unfold DevS.load
    rw [hb, hon, if_pos rfl, hk2]
    simp [hkc]
   have HON : Hid (Calls Tryz.prog 84 #[.pointer (some ⟨L.t i, 0, none⟩), .bool true] w fun e w' => e = .returned (.bool true) ∧ Dev w' d L S ∧ Ch (Fp L) w w') := by
    have := thOn w d L S H.out i hi true
    rwa [hon, hSo] at this
   clear hb hon hSo hk1
   go_enter Tryz.func61, Tryz.ntmps61
   go_wp2_with (first | (go_at_call 85; refine HWD.out.mono ?_; rintro e w' ⟨rfl, rfl⟩) | (go_at_call 84; refine HON.out.mono ?_; rintro e w1 ⟨rfl, hD, hC⟩; have k0 := hD.t0 hi; have k1 := hD.tlt hi; have k2 := hD.lt; have k3 := hD.ccell; have k4 := hD.cword hkc; have k5 := hD.cblt; have HD := Lib.hid hD; have HC := Lib.hid hC; clear hD hC))
   go_ret
   rw [HE.out.1, HE.out.2]
   exact ⟨rfl, HD.out, HC.out⟩
theorem info_u64 : (Tryz.prog.info? 34).map (fun i => (i.zero, i.size, i.bytes)) = some (some (.int .u64 0), 1, 8) := by kernel_rfl
end Go.Proofs.YtaefkelaffijbaaGreatDoor
