/-
  No cell of these rows narrows 'for every input' (looked for: loops, veiled, ifaces, maps, wideKeys, modest, calm, conditions, laid).
  DERIVED. THE GIVEN ROWS OF THIS SEAT. 6 by the template 'for every input the law returns true; each argument reads behind the call as it read before'; 0 by the template 'total and deterministic' (their statements: YtljolgcmkejlnaaTotals.lean).
  GIVEN WITH THE SEED: the statements are not yours to turn. If you find one false, say at which input.
  Laid BY PROGRAM, IN A SANDBOX (cutbox-rows.mjs): the forced cells as the released guide's own fill.sh prints them over the translation 8360f36f8cf90244… (all of the seat's roots in one cut). By AI agents, Wed Nov 11 2026. No macro, syntax, notation, axiom, sorry.
-/
import Derived.Test.YtljolgcmkejlnaaChecked
import GoSem.Claim
import GoSem.ClaimJoined
import GoSem.ClaimMapViews
import Derived.JoinedTies
import Derived.KernelRfl
namespace Go.Proofs.Ytljolgcmkejlnaa
/- THE CELL 'sum', in the pinned program and in every row, IS THE sha256 OF THE DUMP (.gsa) THAT YtljolgcmkejlnaaProg.lean LOADS. Nothing in Lean hashes anything: it is a label: what it is worth is what the hold of that sum in a sandbox is worth. -/
noncomputable def Try.pinned : Pinned := { name := "ytljolgcmkejlnaa", sum := "8360f36f8cf902449185572d2be3a84bb0fe8ffacec9549089741f1d3f14ac38", checked := Try.checked }
namespace Rows
def none {H : Type} : Left H := { results := [], args := [] }

/-- 'bedrocklaw18.EpochPlays': WHATEVER THE INPUT: true; the input reads as it did. -/
def epochPlaysSpec : ChangeSpec := { name := "epochPlays", fn := fun _ => fun
  | [d] => { results := [.lit (.bool true)], args := [d] }
  | _ => none }
def epochPlaysRow : OpenClaim := { program := "ytljolgcmkejlnaa", sum := "8360f36f8cf902449185572d2be3a84bb0fe8ffacec9549089741f1d3f14ac38", func := "bedrock/bedrocklaw18.EpochPlays", spec := "epochPlays", unfollowed := true, recurses := true, apart := false }
def EpochPlaysSaid : Prop := epochPlaysRow.holds Try.pinned (OpenSpec.ofChange epochPlaysSpec)

/-- ITS FALSE NEIGHBOUR: 'it returns false'. Refute it at one input. -/
def epochPlaysWrong : ChangeSpec := { name := "epochPlays", fn := fun _ => fun
  | [d] => { results := [.lit (.bool false)], args := [d] }
  | _ => none }
def EpochPlaysWrongFalsely : Prop := epochPlaysRow.holds Try.pinned (OpenSpec.ofChange epochPlaysWrong)

/-- 'bedrocklaw18.EpochHolds': WHATEVER THE INPUT: true; the input reads as it did. -/
def epochHoldsSpec : ChangeSpec := { name := "epochHolds", fn := fun _ => fun
  | [d1, d2] => { results := [.lit (.bool true)], args := [d1, d2] }
  | _ => none }
def epochHoldsRow : OpenClaim := { program := "ytljolgcmkejlnaa", sum := "8360f36f8cf902449185572d2be3a84bb0fe8ffacec9549089741f1d3f14ac38", func := "bedrock/bedrocklaw18.EpochHolds", spec := "epochHolds", unfollowed := true, recurses := true, apart := false }
def EpochHoldsSaid : Prop := epochHoldsRow.holds Try.pinned (OpenSpec.ofChange epochHoldsSpec)

/-- ITS FALSE NEIGHBOUR: 'it returns false'. Refute it at one input. -/
def epochHoldsWrong : ChangeSpec := { name := "epochHolds", fn := fun _ => fun
  | [d1, d2] => { results := [.lit (.bool false)], args := [d1, d2] }
  | _ => none }
def EpochHoldsWrongFalsely : Prop := epochHoldsRow.holds Try.pinned (OpenSpec.ofChange epochHoldsWrong)

/-- 'bedrocklaw18.EpochEnters': WHATEVER THE INPUT: true; the input reads as it did. -/
def epochEntersSpec : ChangeSpec := { name := "epochEnters", fn := fun _ => fun
  | [d1, d2, d3] => { results := [.lit (.bool true)], args := [d1, d2, d3] }
  | _ => none }
def epochEntersRow : OpenClaim := { program := "ytljolgcmkejlnaa", sum := "8360f36f8cf902449185572d2be3a84bb0fe8ffacec9549089741f1d3f14ac38", func := "bedrock/bedrocklaw18.EpochEnters", spec := "epochEnters", unfollowed := true, recurses := true, apart := false }
def EpochEntersSaid : Prop := epochEntersRow.holds Try.pinned (OpenSpec.ofChange epochEntersSpec)

/-- ITS FALSE NEIGHBOUR: 'it returns false'. Refute it at one input. -/
def epochEntersWrong : ChangeSpec := { name := "epochEnters", fn := fun _ => fun
  | [d1, d2, d3] => { results := [.lit (.bool false)], args := [d1, d2, d3] }
  | _ => none }
def EpochEntersWrongFalsely : Prop := epochEntersRow.holds Try.pinned (OpenSpec.ofChange epochEntersWrong)

/-- 'bedrocklaw18.EpochNils': WHATEVER THE INPUT: true; the input reads as it did. -/
def epochNilsSpec : ChangeSpec := { name := "epochNils", fn := fun _ => fun
  | [d] => { results := [.lit (.bool true)], args := [d] }
  | _ => none }
def epochNilsRow : OpenClaim := { program := "ytljolgcmkejlnaa", sum := "8360f36f8cf902449185572d2be3a84bb0fe8ffacec9549089741f1d3f14ac38", func := "bedrock/bedrocklaw18.EpochNils", spec := "epochNils", unfollowed := true, recurses := true, apart := false }
def EpochNilsSaid : Prop := epochNilsRow.holds Try.pinned (OpenSpec.ofChange epochNilsSpec)

/-- ITS FALSE NEIGHBOUR: 'it returns false'. Refute it at one input. -/
def epochNilsWrong : ChangeSpec := { name := "epochNils", fn := fun _ => fun
  | [d] => { results := [.lit (.bool false)], args := [d] }
  | _ => none }
def EpochNilsWrongFalsely : Prop := epochNilsRow.holds Try.pinned (OpenSpec.ofChange epochNilsWrong)

/-- 'bedrocklaw18.EpochOpens': WHATEVER THE INPUT: true; the input reads as it did. -/
def epochOpensSpec : ChangeSpec := { name := "epochOpens", fn := fun _ => fun
  | [d1, d2] => { results := [.lit (.bool true)], args := [d1, d2] }
  | _ => none }
def epochOpensRow : OpenClaim := { program := "ytljolgcmkejlnaa", sum := "8360f36f8cf902449185572d2be3a84bb0fe8ffacec9549089741f1d3f14ac38", func := "bedrock/bedrocklaw18.EpochOpens", spec := "epochOpens", unfollowed := true, recurses := true, apart := false }
def EpochOpensSaid : Prop := epochOpensRow.holds Try.pinned (OpenSpec.ofChange epochOpensSpec)

/-- ITS FALSE NEIGHBOUR: 'it returns false'. Refute it at one input. -/
def epochOpensWrong : ChangeSpec := { name := "epochOpens", fn := fun _ => fun
  | [d1, d2] => { results := [.lit (.bool false)], args := [d1, d2] }
  | _ => none }
def EpochOpensWrongFalsely : Prop := epochOpensRow.holds Try.pinned (OpenSpec.ofChange epochOpensWrong)

/-- 'bedrocklaw18.EpochGrows': WHATEVER THE INPUT: true; the input reads as it did. -/
def epochGrowsSpec : ChangeSpec := { name := "epochGrows", fn := fun _ => fun
  | [d1, d2, d3] => { results := [.lit (.bool true)], args := [d1, d2, d3] }
  | _ => none }
def epochGrowsRow : OpenClaim := { program := "ytljolgcmkejlnaa", sum := "8360f36f8cf902449185572d2be3a84bb0fe8ffacec9549089741f1d3f14ac38", func := "bedrock/bedrocklaw18.EpochGrows", spec := "epochGrows", unfollowed := true, recurses := true, apart := false }
def EpochGrowsSaid : Prop := epochGrowsRow.holds Try.pinned (OpenSpec.ofChange epochGrowsSpec)

/-- ITS FALSE NEIGHBOUR: 'it returns false'. Refute it at one input. -/
def epochGrowsWrong : ChangeSpec := { name := "epochGrows", fn := fun _ => fun
  | [d1, d2, d3] => { results := [.lit (.bool false)], args := [d1, d2, d3] }
  | _ => none }
def EpochGrowsWrongFalsely : Prop := epochGrowsRow.holds Try.pinned (OpenSpec.ofChange epochGrowsWrong)

/- THE SECOND FORM. 'bulk': how many values and letters a reading holds, each counted each time it is reached (what is shared counts as often as it is met; a slice's spare places count too). A statement '..UptoSaid' is the law's where the arguments, and the package variables that the reading takes, are together of bulk at most 1048576: NARROWER than '..Said'. Prove '..Said' where nothing that the law and all that it calls make is longer than what came in: it says more and counts as full. Else prove '..UptoSaid'. A law counts once. -/
mutual
def uptoBulk {H : Type} : DataW H → Nat
  | .lit (.string bytes) => bytes.length + 1
  | .lit _ => 1
  | .nil => 1
  | .ptr d => uptoBulk d + 1
  | .slice elems spare => uptoBulkAll elems + uptoBulkAll spare + 1
  | .agg parts => uptoBulkAll parts + 1
  | .iface _ d => uptoBulk d + 1
  | .map entries => uptoBulkEntries entries + 1
  | .held _ => 1
def uptoBulkAll {H : Type} : List (DataW H) → Nat
  | [] => 0
  | d :: r => uptoBulk d + uptoBulkAll r
def uptoBulkEntries {H : Type} : List (Lit × DataW H) → Nat
  | [] => 0
  | x :: r => uptoBulkEntry x + uptoBulkEntries r
def uptoBulkEntry {H : Type} : Lit × DataW H → Nat
  | (.string bytes, d) => bytes.length + uptoBulk d + 1
  | (_, d) => uptoBulk d + 1
 end
def uptoSmall : (H : Type) → List (DataW H) → Bool := fun _ ds => decide (uptoBulkAll ds ≤ 1048576)
def OpenSpec.upto (s : _root_.Go.ChangeSpec) : _root_.Go.OpenSpec := { _root_.Go.OpenSpec.ofChange s with cond := some uptoSmall }

/-- 'bedrocklaw18.EpochPlays', WHERE WHAT IT READS IS OF BULK AT MOST 1048576: true; the input reads as it did. -/
def epochPlaysUptoRow : OpenClaim := { program := "ytljolgcmkejlnaa", sum := "8360f36f8cf902449185572d2be3a84bb0fe8ffacec9549089741f1d3f14ac38", func := "bedrock/bedrocklaw18.EpochPlays", spec := "epochPlays", unfollowed := true, recurses := true, apart := false, narrowed := true }
def EpochPlaysUptoSaid : Prop := epochPlaysUptoRow.holds Try.pinned (OpenSpec.upto epochPlaysSpec)

/-- 'bedrocklaw18.EpochHolds', WHERE WHAT IT READS IS OF BULK AT MOST 1048576: true; the input reads as it did. -/
def epochHoldsUptoRow : OpenClaim := { program := "ytljolgcmkejlnaa", sum := "8360f36f8cf902449185572d2be3a84bb0fe8ffacec9549089741f1d3f14ac38", func := "bedrock/bedrocklaw18.EpochHolds", spec := "epochHolds", unfollowed := true, recurses := true, apart := false, narrowed := true }
def EpochHoldsUptoSaid : Prop := epochHoldsUptoRow.holds Try.pinned (OpenSpec.upto epochHoldsSpec)

/-- 'bedrocklaw18.EpochEnters', WHERE WHAT IT READS IS OF BULK AT MOST 1048576: true; the input reads as it did. -/
def epochEntersUptoRow : OpenClaim := { program := "ytljolgcmkejlnaa", sum := "8360f36f8cf902449185572d2be3a84bb0fe8ffacec9549089741f1d3f14ac38", func := "bedrock/bedrocklaw18.EpochEnters", spec := "epochEnters", unfollowed := true, recurses := true, apart := false, narrowed := true }
def EpochEntersUptoSaid : Prop := epochEntersUptoRow.holds Try.pinned (OpenSpec.upto epochEntersSpec)

/-- 'bedrocklaw18.EpochNils', WHERE WHAT IT READS IS OF BULK AT MOST 1048576: true; the input reads as it did. -/
def epochNilsUptoRow : OpenClaim := { program := "ytljolgcmkejlnaa", sum := "8360f36f8cf902449185572d2be3a84bb0fe8ffacec9549089741f1d3f14ac38", func := "bedrock/bedrocklaw18.EpochNils", spec := "epochNils", unfollowed := true, recurses := true, apart := false, narrowed := true }
def EpochNilsUptoSaid : Prop := epochNilsUptoRow.holds Try.pinned (OpenSpec.upto epochNilsSpec)

/-- 'bedrocklaw18.EpochOpens', WHERE WHAT IT READS IS OF BULK AT MOST 1048576: true; the input reads as it did. -/
def epochOpensUptoRow : OpenClaim := { program := "ytljolgcmkejlnaa", sum := "8360f36f8cf902449185572d2be3a84bb0fe8ffacec9549089741f1d3f14ac38", func := "bedrock/bedrocklaw18.EpochOpens", spec := "epochOpens", unfollowed := true, recurses := true, apart := false, narrowed := true }
def EpochOpensUptoSaid : Prop := epochOpensUptoRow.holds Try.pinned (OpenSpec.upto epochOpensSpec)

/-- 'bedrocklaw18.EpochGrows', WHERE WHAT IT READS IS OF BULK AT MOST 1048576: true; the input reads as it did. -/
def epochGrowsUptoRow : OpenClaim := { program := "ytljolgcmkejlnaa", sum := "8360f36f8cf902449185572d2be3a84bb0fe8ffacec9549089741f1d3f14ac38", func := "bedrock/bedrocklaw18.EpochGrows", spec := "epochGrows", unfollowed := true, recurses := true, apart := false, narrowed := true }
def EpochGrowsUptoSaid : Prop := epochGrowsUptoRow.holds Try.pinned (OpenSpec.upto epochGrowsSpec)

end Rows
end Go.Proofs.Ytljolgcmkejlnaa
