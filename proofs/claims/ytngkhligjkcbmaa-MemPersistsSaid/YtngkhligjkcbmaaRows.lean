/-
  No cell of these rows narrows 'for every input' (looked for: loops, veiled, ifaces, maps, wideKeys, modest, calm, conditions, laid).
  DERIVED. THE GIVEN ROWS OF THIS SEAT. 8 by the template 'for every input the law returns true; each argument reads behind the call as it read before'; 0 by the template 'total and deterministic' (their statements: YtngkhligjkcbmaaTotals.lean).
  GIVEN WITH THE SEED: the statements are not yours to turn. If you find one false, say at which input.
  Laid BY PROGRAM, IN A SANDBOX (cutbox-rows.mjs): the forced cells as the released guide's own fill.sh prints them over the translation 37b442764aa16c5e… (all of the seat's roots in one cut). By AI agents, Wed Nov 11 2026. No macro, syntax, notation, axiom, sorry.
-/
import Derived.Test.YtngkhligjkcbmaaChecked
import GoSem.Claim
import GoSem.ClaimJoined
import GoSem.ClaimMapViews
import Derived.JoinedTies
import Derived.KernelRfl
namespace Go.Proofs.Ytngkhligjkcbmaa
/- THE CELL 'sum', in the pinned program and in every row, IS THE sha256 OF THE DUMP (.gsa) THAT YtngkhligjkcbmaaProg.lean LOADS. Nothing in Lean hashes anything: it is a label: what it is worth is what the hold of that sum in a sandbox is worth. -/
noncomputable def Try.pinned : Pinned := { name := "ytngkhligjkcbmaa", sum := "37b442764aa16c5e4005b0ce3b466bc1426a9953cb770150391ad5f16573e1b8", checked := Try.checked }
namespace Rows
def none {H : Type} : Left H := { results := [], args := [] }

/-- 'bedrocklaw10.MemPrograms': WHATEVER THE INPUT: true; the input reads as it did. -/
def memProgramsSpec : ChangeSpec := { name := "memPrograms", fn := fun _ => fun
  | [d1, d2, d3] => { results := [.lit (.bool true)], args := [d1, d2, d3] }
  | _ => none }
def memProgramsRow : OpenClaim := { program := "ytngkhligjkcbmaa", sum := "37b442764aa16c5e4005b0ce3b466bc1426a9953cb770150391ad5f16573e1b8", func := "bedrock/bedrocklaw10.MemPrograms", spec := "memPrograms", unfollowed := true, recurses := true, apart := false }
def MemProgramsSaid : Prop := memProgramsRow.holds Try.pinned (OpenSpec.ofChange memProgramsSpec)

/-- ITS FALSE NEIGHBOUR: 'it returns false'. Refute it at one input. -/
def memProgramsWrong : ChangeSpec := { name := "memPrograms", fn := fun _ => fun
  | [d1, d2, d3] => { results := [.lit (.bool false)], args := [d1, d2, d3] }
  | _ => none }
def MemProgramsWrongFalsely : Prop := memProgramsRow.holds Try.pinned (OpenSpec.ofChange memProgramsWrong)

/-- 'bedrocklaw10.MemOverlays': WHATEVER THE INPUT: true; the input reads as it did. -/
def memOverlaysSpec : ChangeSpec := { name := "memOverlays", fn := fun _ => fun
  | [d] => { results := [.lit (.bool true)], args := [d] }
  | _ => none }
def memOverlaysRow : OpenClaim := { program := "ytngkhligjkcbmaa", sum := "37b442764aa16c5e4005b0ce3b466bc1426a9953cb770150391ad5f16573e1b8", func := "bedrock/bedrocklaw10.MemOverlays", spec := "memOverlays", unfollowed := true, recurses := true, apart := false }
def MemOverlaysSaid : Prop := memOverlaysRow.holds Try.pinned (OpenSpec.ofChange memOverlaysSpec)

/-- ITS FALSE NEIGHBOUR: 'it returns false'. Refute it at one input. -/
def memOverlaysWrong : ChangeSpec := { name := "memOverlays", fn := fun _ => fun
  | [d] => { results := [.lit (.bool false)], args := [d] }
  | _ => none }
def MemOverlaysWrongFalsely : Prop := memOverlaysRow.holds Try.pinned (OpenSpec.ofChange memOverlaysWrong)

/-- 'bedrocklaw10.MemNil': WHATEVER THE INPUT: true; the input reads as it did. -/
def memNilSpec : ChangeSpec := { name := "memNil", fn := fun _ => fun
  | [d1, d2, d3] => { results := [.lit (.bool true)], args := [d1, d2, d3] }
  | _ => none }
def memNilRow : OpenClaim := { program := "ytngkhligjkcbmaa", sum := "37b442764aa16c5e4005b0ce3b466bc1426a9953cb770150391ad5f16573e1b8", func := "bedrock/bedrocklaw10.MemNil", spec := "memNil", unfollowed := true, recurses := true, apart := false }
def MemNilSaid : Prop := memNilRow.holds Try.pinned (OpenSpec.ofChange memNilSpec)

/-- ITS FALSE NEIGHBOUR: 'it returns false'. Refute it at one input. -/
def memNilWrong : ChangeSpec := { name := "memNil", fn := fun _ => fun
  | [d1, d2, d3] => { results := [.lit (.bool false)], args := [d1, d2, d3] }
  | _ => none }
def MemNilWrongFalsely : Prop := memNilRow.holds Try.pinned (OpenSpec.ofChange memNilWrong)

/-- 'bedrocklaw10.MemRuns': WHATEVER THE INPUT: true; the input reads as it did. -/
def memRunsSpec : ChangeSpec := { name := "memRuns", fn := fun _ => fun
  | [d1, d2] => { results := [.lit (.bool true)], args := [d1, d2] }
  | _ => none }
def memRunsRow : OpenClaim := { program := "ytngkhligjkcbmaa", sum := "37b442764aa16c5e4005b0ce3b466bc1426a9953cb770150391ad5f16573e1b8", func := "bedrock/bedrocklaw10.MemRuns", spec := "memRuns", unfollowed := true, recurses := true, apart := false }
def MemRunsSaid : Prop := memRunsRow.holds Try.pinned (OpenSpec.ofChange memRunsSpec)

/-- ITS FALSE NEIGHBOUR: 'it returns false'. Refute it at one input. -/
def memRunsWrong : ChangeSpec := { name := "memRuns", fn := fun _ => fun
  | [d1, d2] => { results := [.lit (.bool false)], args := [d1, d2] }
  | _ => none }
def MemRunsWrongFalsely : Prop := memRunsRow.holds Try.pinned (OpenSpec.ofChange memRunsWrong)

/-- 'bedrocklaw10.MemCuts': WHATEVER THE INPUT: true; the input reads as it did. -/
def memCutsSpec : ChangeSpec := { name := "memCuts", fn := fun _ => fun
  | [d1, d2, d3] => { results := [.lit (.bool true)], args := [d1, d2, d3] }
  | _ => none }
def memCutsRow : OpenClaim := { program := "ytngkhligjkcbmaa", sum := "37b442764aa16c5e4005b0ce3b466bc1426a9953cb770150391ad5f16573e1b8", func := "bedrock/bedrocklaw10.MemCuts", spec := "memCuts", unfollowed := true, recurses := true, apart := false }
def MemCutsSaid : Prop := memCutsRow.holds Try.pinned (OpenSpec.ofChange memCutsSpec)

/-- ITS FALSE NEIGHBOUR: 'it returns false'. Refute it at one input. -/
def memCutsWrong : ChangeSpec := { name := "memCuts", fn := fun _ => fun
  | [d1, d2, d3] => { results := [.lit (.bool false)], args := [d1, d2, d3] }
  | _ => none }
def MemCutsWrongFalsely : Prop := memCutsRow.holds Try.pinned (OpenSpec.ofChange memCutsWrong)

/-- 'bedrocklaw10.MemMeters': WHATEVER THE INPUT: true; the input reads as it did. -/
def memMetersSpec : ChangeSpec := { name := "memMeters", fn := fun _ => fun
  | [d1, d2] => { results := [.lit (.bool true)], args := [d1, d2] }
  | _ => none }
def memMetersRow : OpenClaim := { program := "ytngkhligjkcbmaa", sum := "37b442764aa16c5e4005b0ce3b466bc1426a9953cb770150391ad5f16573e1b8", func := "bedrock/bedrocklaw10.MemMeters", spec := "memMeters", unfollowed := true, recurses := true, apart := false }
def MemMetersSaid : Prop := memMetersRow.holds Try.pinned (OpenSpec.ofChange memMetersSpec)

/-- ITS FALSE NEIGHBOUR: 'it returns false'. Refute it at one input. -/
def memMetersWrong : ChangeSpec := { name := "memMeters", fn := fun _ => fun
  | [d1, d2] => { results := [.lit (.bool false)], args := [d1, d2] }
  | _ => none }
def MemMetersWrongFalsely : Prop := memMetersRow.holds Try.pinned (OpenSpec.ofChange memMetersWrong)

/-- 'bedrocklaw10.MemSteps': WHATEVER THE INPUT: true; the input reads as it did. -/
def memStepsSpec : ChangeSpec := { name := "memSteps", fn := fun _ => fun
  | [d1, d2] => { results := [.lit (.bool true)], args := [d1, d2] }
  | _ => none }
def memStepsRow : OpenClaim := { program := "ytngkhligjkcbmaa", sum := "37b442764aa16c5e4005b0ce3b466bc1426a9953cb770150391ad5f16573e1b8", func := "bedrock/bedrocklaw10.MemSteps", spec := "memSteps", unfollowed := true, recurses := true, apart := false }
def MemStepsSaid : Prop := memStepsRow.holds Try.pinned (OpenSpec.ofChange memStepsSpec)

/-- ITS FALSE NEIGHBOUR: 'it returns false'. Refute it at one input. -/
def memStepsWrong : ChangeSpec := { name := "memSteps", fn := fun _ => fun
  | [d1, d2] => { results := [.lit (.bool false)], args := [d1, d2] }
  | _ => none }
def MemStepsWrongFalsely : Prop := memStepsRow.holds Try.pinned (OpenSpec.ofChange memStepsWrong)

/-- 'bedrocklaw10.MemPersists': WHATEVER THE INPUT: true; the input reads as it did. -/
def memPersistsSpec : ChangeSpec := { name := "memPersists", fn := fun _ => fun
  | [d1, d2, d3] => { results := [.lit (.bool true)], args := [d1, d2, d3] }
  | _ => none }
def memPersistsRow : OpenClaim := { program := "ytngkhligjkcbmaa", sum := "37b442764aa16c5e4005b0ce3b466bc1426a9953cb770150391ad5f16573e1b8", func := "bedrock/bedrocklaw10.MemPersists", spec := "memPersists", unfollowed := true, recurses := true, apart := false }
def MemPersistsSaid : Prop := memPersistsRow.holds Try.pinned (OpenSpec.ofChange memPersistsSpec)

/-- ITS FALSE NEIGHBOUR: 'it returns false'. Refute it at one input. -/
def memPersistsWrong : ChangeSpec := { name := "memPersists", fn := fun _ => fun
  | [d1, d2, d3] => { results := [.lit (.bool false)], args := [d1, d2, d3] }
  | _ => none }
def MemPersistsWrongFalsely : Prop := memPersistsRow.holds Try.pinned (OpenSpec.ofChange memPersistsWrong)

/- THE SECOND FORM. 'bulk': how many values and letters a reading holds, each counted each time it is reached (what is shared counts as often as it is met; a slice's spare places count too). A statement '..UptoSaid' is the law's where the arguments, and the package variables that the reading takes, are together of bulk at most 1048576: NARROWER than '..Said'. Prove '..Said' where nothing that the law and all that it calls make is longer than what came in: it says more and counts as full. Else prove '..UptoSaid'. A law counts once. -/
mutual
def uptoBulk {H : Type} : DataW H → Nat
  | .lit (.string bytes) => bytes.length + 1
  | .lit _ => 1
  | .nil => 1
  | .ptr d => uptoBulk d + 1
  | .slice elems spare => uptoBulkAll elems + uptoBulkAll spare + 1
  | .agg parts => uptoBulkAll parts + 1
  | .iface _ d => uptoBulk d + 1
  | .map entries => uptoBulkEntries entries + 1
  | .held _ => 1
def uptoBulkAll {H : Type} : List (DataW H) → Nat
  | [] => 0
  | d :: r => uptoBulk d + uptoBulkAll r
def uptoBulkEntries {H : Type} : List (Lit × DataW H) → Nat
  | [] => 0
  | x :: r => uptoBulkEntry x + uptoBulkEntries r
def uptoBulkEntry {H : Type} : Lit × DataW H → Nat
  | (.string bytes, d) => bytes.length + uptoBulk d + 1
  | (_, d) => uptoBulk d + 1
 end
def uptoSmall : (H : Type) → List (DataW H) → Bool := fun _ ds => decide (uptoBulkAll ds ≤ 1048576)
def OpenSpec.upto (s : _root_.Go.ChangeSpec) : _root_.Go.OpenSpec := { _root_.Go.OpenSpec.ofChange s with cond := some uptoSmall }

/-- 'bedrocklaw10.MemPrograms', WHERE WHAT IT READS IS OF BULK AT MOST 1048576: true; the input reads as it did. -/
def memProgramsUptoRow : OpenClaim := { program := "ytngkhligjkcbmaa", sum := "37b442764aa16c5e4005b0ce3b466bc1426a9953cb770150391ad5f16573e1b8", func := "bedrock/bedrocklaw10.MemPrograms", spec := "memPrograms", unfollowed := true, recurses := true, apart := false, narrowed := true }
def MemProgramsUptoSaid : Prop := memProgramsUptoRow.holds Try.pinned (OpenSpec.upto memProgramsSpec)

/-- 'bedrocklaw10.MemOverlays', WHERE WHAT IT READS IS OF BULK AT MOST 1048576: true; the input reads as it did. -/
def memOverlaysUptoRow : OpenClaim := { program := "ytngkhligjkcbmaa", sum := "37b442764aa16c5e4005b0ce3b466bc1426a9953cb770150391ad5f16573e1b8", func := "bedrock/bedrocklaw10.MemOverlays", spec := "memOverlays", unfollowed := true, recurses := true, apart := false, narrowed := true }
def MemOverlaysUptoSaid : Prop := memOverlaysUptoRow.holds Try.pinned (OpenSpec.upto memOverlaysSpec)

/-- 'bedrocklaw10.MemNil', WHERE WHAT IT READS IS OF BULK AT MOST 1048576: true; the input reads as it did. -/
def memNilUptoRow : OpenClaim := { program := "ytngkhligjkcbmaa", sum := "37b442764aa16c5e4005b0ce3b466bc1426a9953cb770150391ad5f16573e1b8", func := "bedrock/bedrocklaw10.MemNil", spec := "memNil", unfollowed := true, recurses := true, apart := false, narrowed := true }
def MemNilUptoSaid : Prop := memNilUptoRow.holds Try.pinned (OpenSpec.upto memNilSpec)

/-- 'bedrocklaw10.MemRuns', WHERE WHAT IT READS IS OF BULK AT MOST 1048576: true; the input reads as it did. -/
def memRunsUptoRow : OpenClaim := { program := "ytngkhligjkcbmaa", sum := "37b442764aa16c5e4005b0ce3b466bc1426a9953cb770150391ad5f16573e1b8", func := "bedrock/bedrocklaw10.MemRuns", spec := "memRuns", unfollowed := true, recurses := true, apart := false, narrowed := true }
def MemRunsUptoSaid : Prop := memRunsUptoRow.holds Try.pinned (OpenSpec.upto memRunsSpec)

/-- 'bedrocklaw10.MemCuts', WHERE WHAT IT READS IS OF BULK AT MOST 1048576: true; the input reads as it did. -/
def memCutsUptoRow : OpenClaim := { program := "ytngkhligjkcbmaa", sum := "37b442764aa16c5e4005b0ce3b466bc1426a9953cb770150391ad5f16573e1b8", func := "bedrock/bedrocklaw10.MemCuts", spec := "memCuts", unfollowed := true, recurses := true, apart := false, narrowed := true }
def MemCutsUptoSaid : Prop := memCutsUptoRow.holds Try.pinned (OpenSpec.upto memCutsSpec)

/-- 'bedrocklaw10.MemMeters', WHERE WHAT IT READS IS OF BULK AT MOST 1048576: true; the input reads as it did. -/
def memMetersUptoRow : OpenClaim := { program := "ytngkhligjkcbmaa", sum := "37b442764aa16c5e4005b0ce3b466bc1426a9953cb770150391ad5f16573e1b8", func := "bedrock/bedrocklaw10.MemMeters", spec := "memMeters", unfollowed := true, recurses := true, apart := false, narrowed := true }
def MemMetersUptoSaid : Prop := memMetersUptoRow.holds Try.pinned (OpenSpec.upto memMetersSpec)

/-- 'bedrocklaw10.MemSteps', WHERE WHAT IT READS IS OF BULK AT MOST 1048576: true; the input reads as it did. -/
def memStepsUptoRow : OpenClaim := { program := "ytngkhligjkcbmaa", sum := "37b442764aa16c5e4005b0ce3b466bc1426a9953cb770150391ad5f16573e1b8", func := "bedrock/bedrocklaw10.MemSteps", spec := "memSteps", unfollowed := true, recurses := true, apart := false, narrowed := true }
def MemStepsUptoSaid : Prop := memStepsUptoRow.holds Try.pinned (OpenSpec.upto memStepsSpec)

/-- 'bedrocklaw10.MemPersists', WHERE WHAT IT READS IS OF BULK AT MOST 1048576: true; the input reads as it did. -/
def memPersistsUptoRow : OpenClaim := { program := "ytngkhligjkcbmaa", sum := "37b442764aa16c5e4005b0ce3b466bc1426a9953cb770150391ad5f16573e1b8", func := "bedrock/bedrocklaw10.MemPersists", spec := "memPersists", unfollowed := true, recurses := true, apart := false, narrowed := true }
def MemPersistsUptoSaid : Prop := memPersistsUptoRow.holds Try.pinned (OpenSpec.upto memPersistsSpec)

end Rows
end Go.Proofs.Ytngkhligjkcbmaa
