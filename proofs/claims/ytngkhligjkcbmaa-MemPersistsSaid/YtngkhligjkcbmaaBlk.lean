/- Blocks of cells that are known whole. -/
import Derived.Test.YtngkhligjkcbmaaApp
namespace Go.Proofs.Ytngkhligjkcbmaa
open Go.RowKit
set_option linter.unusedVariables false

def CB (w : World) (g : Nat) (e : TypeId) (cs : Array Value) : Prop := w.heap[g]? = some (.cells cs e (0, 0))
section
variable {w w' : World} {g : Nat} {e : TypeId} {cs : Array Value}
theorem CB.lt (h : CB w g e cs) : g < w.heap.size := (Array.getElem?_eq_some_iff.1 h).1
theorem CB.cell (h : CB w g e cs) (i : Nat) : w.cell? ⟨g, i, none⟩ = cs[i]? := by
  unfold CB at h
  simp [World.cell?, h]
theorem CB.cell_some (h : CB w g e cs) {i : Nat} {v : Value} (hv : cs[i]? = some v) : w.cell? ⟨g, i, none⟩ = some v := (h.cell i).trans hv
theorem CB.frozen (h : CB w g e cs) (i : Nat) : w.frozen? ⟨g, i, none⟩ = false := by
  unfold CB at h
  simp [World.frozen?, h]
theorem CB.set (h : CB w g e cs) (i : Nat) (v : Value) : CB (w.setCell ⟨g, i, none⟩ v) g e (cs.setIfInBounds i v) := by
  unfold CB at h ⊢
  simp [World.setCell, Array.getElem?_modify, h]
theorem CB.keep (h : CB w g e cs) (hb : w'.heap[g]? = w.heap[g]?) : CB w' g e cs := hb.trans h
theorem CB.far (h : CB w g e cs) {p : Addr} (hp : g ≠ p.block) (u : Value) : CB (w.setCell p u) g e cs := (Below.heap_setCell w p u g hp).trans h
theorem CB.alloc (h : CB w g e cs) (o : Obj) : CB (w.alloc o) g e cs := (Below.heap_alloc w o g h.lt).trans h
theorem CB.ch {S : Nat → Prop} (h : CB w g e cs) (hc : Ch S w w') (hS : ¬ S g) : CB w' g e cs := (hc.block g h.lt hS).trans h
theorem CB.below (h : CB w g e cs) (hb : Below w.heap.size w w') : CB w' g e cs := (hb.block g h.lt).trans h
theorem CB.bx (h : CB w g e cs) (x : BX w) : CB x.w g e cs := h.below x.below
theorem CB.drewN (h : CB w g e cs) (n : Nat) : CB (w.drewN n) g e cs := h
theorem CB.drew (h : CB w g e cs) : CB w.drew g e cs := h
theorem CB.new (w : World) (e : TypeId) (cs : Array Value) : CB (w.alloc (.cells cs e)) w.heap.size e cs := heap_alloc_new w _
theorem CB.new_at (w : World) (e : TypeId) (cs : Array Value) (hg : g = w.heap.size) : CB (w.alloc (.cells cs e)) g e cs := by subst hg; exact CB.new w e cs
end
end Go.Proofs.Ytngkhligjkcbmaa
