/- One more step for operations that do not look at the world. -/
import Derived.Test.YtngkhligjkcbmaaPerm
namespace Go.Proofs.Ytngkhligjkcbmaa
open Go.RowKit
theorem pure_ex {P : Program} {ops : Array Oper} {K : Act → Prop} {o : Oper} {l : List Oper} {a : Act} (h1 : Region.wanted o (yielded ops a.tmps) = true) (h : ∃ v, (∀ w, (execOp a.eval o).run P w = .ok (.value v) w) ∧ wpPure P ops K l (a.put o.dst v)) : wpPure P ops K (o :: l) a := by
  obtain ⟨v, h2, h⟩ := h
  exact ⟨v, .inl ⟨h1, h2⟩, h⟩
end Go.Proofs.Ytngkhligjkcbmaa
