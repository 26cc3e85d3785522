/- A range over a function at the wide fence: the iterator Runs of the zero Map. -/
import Derived.Test.YtbhkdngbgokilaaDoorBmZ
import Derived.RangeFuncNested
import Derived.RangeFuncBound
import Derived.RangeFuncCalls
import Derived.RangeFuncLeaves
import Derived.Shelf.Abstract
import Derived.OwnWalkIn
import Derived.TacticsInMore
import Derived.LoopNIn
import Derived.LoopIn
namespace Go.Proofs.YtbhkdngbgokilaaDoor
open Go.RowKit Go.Shelf
set_option linter.unusedVariables false

theorem grown_of_below {w w' : World} (h : Below w.heap.size w w') : w.grownBy w' none := ⟨h.os, h.tape, h.output, h.size, fun k hk _ => h.block k hk⟩
/-- Enter a function whose body holds a range over a function. -/
theorem calls_marks {P : Program} {f : FuncId} {fn : Func} {c : Code} {args : Array Value} {w : World} {R : Ending → World → Prop} (hf : P.funcs[f]? = some fn) (hb : fn.body = some c)
    (h : c.wp P (bodyPostM Fence.wide 6 P fn R) { tmps := args ++ Array.replicate (fn.ntmps - args.size) undef, defers := [] } w) : Calls P f args w R :=
  callsIn_wide.1 (callsIn_of_wp_marks (F := Fence.wide) (n := 6) hf hb trivial (wpIn_wide.2 h))
def encsP (p : Int × Int) : Array Value := #[.int .i64 p.1, .int .i64 p.2]
set_option maxRecDepth 100000 in
set_option maxHeartbeats 1000000 in
theorem runsZ_stops (n : Nat) (Kp : World → World → Prop) (g : Nat) (w0 : World) (hg : CB w0 g 36 #[.nilIface, .int .u64 0, .int .i64 0]) :
    SeqStopsK Fence.wide n Tryd.prog 47 #[.pointer (some ⟨g, 0, none⟩)] encsP Kp (fun xs => xs = []) (fun _ => False) 0 w0 := fun l J Jx W hW hJ hJx hY h0 => by
  refine callsIn_wide.2 ?_
  have hgW := hg.below hW
  have k0 := hgW.cell 0
  have k1 := hgW.cell 1
  have k2 := hgW.cell 2
  have kl := hgW.lt
  have HN := Lib.hid (fun (W : World) => bmNextZ W 0 true)
  have HJ : Hid (∀ W', Below W.heap.size W W' → J [] W') := fun W' hb => hJ [] W W' none h0 (grown_of_below hb) (fun r e => by cases e)
  unfold zmv at HN
  clear hY hJ hJx hgW hg
  show Calls Tryd.prog 47 #[.func (.yield l) #[] #[], .pointer (some ⟨g, 0, none⟩)] W _
  go_enter Tryd.func47, Tryd.ntmps47
  go_wp2_with (go_at_call 23; refine (HN.out _).mono ?_; rintro e w' ⟨rfl, hb⟩; obtain ⟨x, rfl⟩ := bx_of hb; clear hb)
  obtain ⟨W1, hW1⟩ : ∃ W1, x.w = W1 := ⟨_, rfl⟩
  have HJ1 : Hid (J [] W1) := by have h := x.below; rw [hW1] at h; exact HJ.out W1 h
  rw [hW1]
  clear hW1 k0 k1 k2 kl
  go_loopw [3, 4, 7, 8, 9, 10, 11, 12, 13, 14, 15, 16, 17, 18, 19, 20, 21, 22, 23, 24, 25, 26] (fun i _ _ _ _ _ _ _ _ _ _ _ _ _ _ _ _ _ _ _ _ _ wr => i = .int .i64 (-1) ∧ wr = W1) (fun i _ _ _ _ _ _ _ _ _ _ _ _ _ _ _ _ _ _ _ _ _ _ => 0)
  case atStart => exact ⟨rfl, rfl⟩
  case round =>
    obtain ⟨rfl, rfl⟩ := hrel
    go_wp2
    go_end0
    exact ⟨⟨_, rfl⟩, .inl ⟨_, rfl, HJ1.out⟩⟩
end Go.Proofs.YtbhkdngbgokilaaDoor
