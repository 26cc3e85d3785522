/- The builtin clear on a map; the notes of a thread without notes. -/
import Derived.Test.YtljolgcmkejlnaaDevR
import Derived.Maps.RangeWalk
namespace Go.Proofs.Ytljolgcmkejlnaa
open Go.RowKit
set_option linter.unusedVariables false

theorem run_clear_map {P : Program} (w : World) (t ty k e : TypeId) (ht : P.underlying t = some (.map k e)) (r : Nat) (es : Array MapEntry) (clock : Nat) (hr : w.heap[r]? = some (.map es clock)) :
    (Builtin.clear_ #[t] ty #[.map (some r)]).run P w = .ok (.tuple #[]) { w with heap := w.heap.setIfInBounds r (.map #[] clock) } := by
  unfold Builtin.clear_
  simp [run_underlying ht, Go.MapKept.run_getObj_map hr, Go.MapKept.run_setObj_map _ hr]
theorem ch_clear_map (w : World) (r : Nat) (o : Obj) : Ch (At r) w { w with heap := w.heap.setIfInBounds r o } :=
  ⟨rfl, rfl, rfl, by simp, fun b _ hb => by
    show (w.heap.setIfInBounds r o)[b]? = w.heap[b]?
    rw [Array.getElem?_setIfInBounds, if_neg (fun h => hb h.symm)]⟩
/-- A cleared map has no notes. -/
theorem NMap.cleared (w : World) (r clock : Nat) (h : r < w.heap.size) : NMap { w with heap := w.heap.setIfInBounds r (.map #[] clock) } r (fun _ => none) 0 :=
  ⟨.map [], ⟨#[], clock, by simp [h], ⟨by simp, Go.MapKept.stamped_empty clock, by simp⟩, Nat.le_refl _, rfl⟩, fun x hx => ⟨by rfl, fun c hc => by simp at hc⟩⟩
end Go.Proofs.Ytljolgcmkejlnaa
