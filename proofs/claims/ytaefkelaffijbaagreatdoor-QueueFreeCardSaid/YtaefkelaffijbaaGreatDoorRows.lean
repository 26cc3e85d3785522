/-
  NARROWER THAN 'FOR EVERY INPUT', by the rows' own cells (each row's printed sentence says how): QueueCounts: laid · QueueOrders: laid · QueueBegins: laid · QueuePlays: laid · QueueLinear: laid · QueueFree: laid · QueueDurable: laid.
  DERIVED. THE GIVEN ROWS OF THIS SEAT. 7 by the template 'for every input the law returns true; each argument reads behind the call as it read before'; 0 by the template 'total and deterministic' (their statements: YtaefkelaffijbaaGreatDoorTotals.lean).
  GIVEN WITH THE SEED: the statements are not yours to turn. If you find one false, say at which input.
  Laid BY PROGRAM, IN A SANDBOX (cutbox-rows.mjs): the forced cells as the released guide's own fill.sh prints them over the translation 55b9e09ca730f6d3… (all of the seat's roots in one cut). By AI agents, Wed Nov 11 2026. No macro, syntax, notation, axiom, sorry.
-/
import Derived.Test.YtaefkelaffijbaaGreatDoorChecked
import GoSem.Claim
import GoSem.ClaimJoined
import GoSem.ClaimMapViews
import Derived.JoinedTies
import Derived.KernelRfl
namespace Go.Proofs.YtaefkelaffijbaaGreatDoor
/- THE CELL 'sum', in the pinned program and in every row, IS THE sha256 OF THE DUMP (.gsa) THAT YtaefkelaffijbaaGreatDoorProg.lean LOADS. Nothing in Lean hashes anything: it is a label: what it is worth is what the hold of that sum in a sandbox is worth. -/
noncomputable def Tryz.pinned : Pinned := { name := "ytaefkelaffijbaagreatdoor", sum := "55b9e09ca730f6d36761aca070017dd70020506b5cf1a67183221dc4c0e6b979", checked := Tryz.checked }
namespace Rows
def none {H : Type} : Left H := { results := [], args := [] }

/- WHAT THE LISTED PACKAGE-LEVEL VARIABLES READ AS WHEN THE CALL BEGINS. Each datum BY PROGRAM (the guide's laid-datum.mjs) off the statement by which the dump's own 'gosem.cut.vars' lays the variable. In a bare row this is a premise. The card (YtaefkelaffijbaaGreatDoorCards.lean) ties it to the program's text. -/
def laid_bedrock_crc_nibbles {H : Type} : DataW H := .agg [.lit (.int .u32 0), .lit (.int .u32 274646895), .lit (.int .u32 549293790), .lit (.int .u32 820201905), .lit (.int .u32 1098587580), .lit (.int .u32 1361435347), .lit (.int .u32 1640403810), .lit (.int .u32 1905808397), .lit (.int .u32 2197175160), .lit (.int .u32 2460548119), .lit (.int .u32 2722870694), .lit (.int .u32 2987750089), .lit (.int .u32 3280807620), .lit (.int .u32 3553878443), .lit (.int .u32 3811616794), .lit (.int .u32 4084100981)]

/-- 'bedrocklaw30.QueueCounts': WHATEVER THE INPUT: true; the input reads as it did. -/
def queueCountsSpec : ChangeSpec := { name := "queueCounts", fn := fun _ => fun
  | [d1, d2] => { results := [.lit (.bool true)], args := [d1, d2] }
  | _ => none }
def queueCountsRow : OpenClaim := { program := "ytaefkelaffijbaagreatdoor", sum := "55b9e09ca730f6d36761aca070017dd70020506b5cf1a67183221dc4c0e6b979", func := "bedrock/bedrocklaw30.QueueCounts", spec := "queueCounts", unfollowed := true, recurses := true, named := ["bedrock/crc.nibbles"], apart := false, laid := [("bedrock/crc.nibbles", laid_bedrock_crc_nibbles)] }
def QueueCountsSaid : Prop := queueCountsRow.holds Tryz.pinned (OpenSpec.ofChange queueCountsSpec)

/-- ITS FALSE NEIGHBOUR: 'it returns false'. Refute it at one input. -/
def queueCountsWrong : ChangeSpec := { name := "queueCounts", fn := fun _ => fun
  | [d1, d2] => { results := [.lit (.bool false)], args := [d1, d2] }
  | _ => none }
def QueueCountsWrongFalsely : Prop := queueCountsRow.holds Tryz.pinned (OpenSpec.ofChange queueCountsWrong)

/-- 'bedrocklaw30.QueueOrders': WHATEVER THE INPUT: true; the input reads as it did. -/
def queueOrdersSpec : ChangeSpec := { name := "queueOrders", fn := fun _ => fun
  | [d1, d2] => { results := [.lit (.bool true)], args := [d1, d2] }
  | _ => none }
def queueOrdersRow : OpenClaim := { program := "ytaefkelaffijbaagreatdoor", sum := "55b9e09ca730f6d36761aca070017dd70020506b5cf1a67183221dc4c0e6b979", func := "bedrock/bedrocklaw30.QueueOrders", spec := "queueOrders", unfollowed := true, recurses := true, named := ["bedrock/crc.nibbles"], apart := false, laid := [("bedrock/crc.nibbles", laid_bedrock_crc_nibbles)] }
def QueueOrdersSaid : Prop := queueOrdersRow.holds Tryz.pinned (OpenSpec.ofChange queueOrdersSpec)

/-- ITS FALSE NEIGHBOUR: 'it returns false'. Refute it at one input. -/
def queueOrdersWrong : ChangeSpec := { name := "queueOrders", fn := fun _ => fun
  | [d1, d2] => { results := [.lit (.bool false)], args := [d1, d2] }
  | _ => none }
def QueueOrdersWrongFalsely : Prop := queueOrdersRow.holds Tryz.pinned (OpenSpec.ofChange queueOrdersWrong)

/-- 'bedrocklaw30.QueueBegins': WHATEVER THE INPUT: true; the input reads as it did. -/
def queueBeginsSpec : ChangeSpec := { name := "queueBegins", fn := fun _ => fun
  | [d1, d2, d3] => { results := [.lit (.bool true)], args := [d1, d2, d3] }
  | _ => none }
def queueBeginsRow : OpenClaim := { program := "ytaefkelaffijbaagreatdoor", sum := "55b9e09ca730f6d36761aca070017dd70020506b5cf1a67183221dc4c0e6b979", func := "bedrock/bedrocklaw30.QueueBegins", spec := "queueBegins", unfollowed := true, recurses := true, named := ["bedrock/crc.nibbles"], apart := false, laid := [("bedrock/crc.nibbles", laid_bedrock_crc_nibbles)] }
def QueueBeginsSaid : Prop := queueBeginsRow.holds Tryz.pinned (OpenSpec.ofChange queueBeginsSpec)

/-- ITS FALSE NEIGHBOUR: 'it returns false'. Refute it at one input. -/
def queueBeginsWrong : ChangeSpec := { name := "queueBegins", fn := fun _ => fun
  | [d1, d2, d3] => { results := [.lit (.bool false)], args := [d1, d2, d3] }
  | _ => none }
def QueueBeginsWrongFalsely : Prop := queueBeginsRow.holds Tryz.pinned (OpenSpec.ofChange queueBeginsWrong)

/-- 'bedrocklaw30.QueuePlays': WHATEVER THE INPUT: true; the input reads as it did. -/
def queuePlaysSpec : ChangeSpec := { name := "queuePlays", fn := fun _ => fun
  | [d1, d2] => { results := [.lit (.bool true)], args := [d1, d2] }
  | _ => none }
def queuePlaysRow : OpenClaim := { program := "ytaefkelaffijbaagreatdoor", sum := "55b9e09ca730f6d36761aca070017dd70020506b5cf1a67183221dc4c0e6b979", func := "bedrock/bedrocklaw30.QueuePlays", spec := "queuePlays", unfollowed := true, recurses := true, named := ["bedrock/crc.nibbles"], apart := false, laid := [("bedrock/crc.nibbles", laid_bedrock_crc_nibbles)] }
def QueuePlaysSaid : Prop := queuePlaysRow.holds Tryz.pinned (OpenSpec.ofChange queuePlaysSpec)

/-- ITS FALSE NEIGHBOUR: 'it returns false'. Refute it at one input. -/
def queuePlaysWrong : ChangeSpec := { name := "queuePlays", fn := fun _ => fun
  | [d1, d2] => { results := [.lit (.bool false)], args := [d1, d2] }
  | _ => none }
def QueuePlaysWrongFalsely : Prop := queuePlaysRow.holds Tryz.pinned (OpenSpec.ofChange queuePlaysWrong)

/-- 'bedrocklaw30.QueueLinear': WHATEVER THE INPUT: true; the input reads as it did. -/
def queueLinearSpec : ChangeSpec := { name := "queueLinear", fn := fun _ => fun
  | [d1, d2, d3] => { results := [.lit (.bool true)], args := [d1, d2, d3] }
  | _ => none }
def queueLinearRow : OpenClaim := { program := "ytaefkelaffijbaagreatdoor", sum := "55b9e09ca730f6d36761aca070017dd70020506b5cf1a67183221dc4c0e6b979", func := "bedrock/bedrocklaw30.QueueLinear", spec := "queueLinear", unfollowed := true, recurses := true, named := ["bedrock/crc.nibbles"], apart := false, laid := [("bedrock/crc.nibbles", laid_bedrock_crc_nibbles)] }
def QueueLinearSaid : Prop := queueLinearRow.holds Tryz.pinned (OpenSpec.ofChange queueLinearSpec)

/-- ITS FALSE NEIGHBOUR: 'it returns false'. Refute it at one input. -/
def queueLinearWrong : ChangeSpec := { name := "queueLinear", fn := fun _ => fun
  | [d1, d2, d3] => { results := [.lit (.bool false)], args := [d1, d2, d3] }
  | _ => none }
def QueueLinearWrongFalsely : Prop := queueLinearRow.holds Tryz.pinned (OpenSpec.ofChange queueLinearWrong)

/-- 'bedrocklaw30.QueueFree': WHATEVER THE INPUT: true; the input reads as it did. -/
def queueFreeSpec : ChangeSpec := { name := "queueFree", fn := fun _ => fun
  | [d1, d2, d3] => { results := [.lit (.bool true)], args := [d1, d2, d3] }
  | _ => none }
def queueFreeRow : OpenClaim := { program := "ytaefkelaffijbaagreatdoor", sum := "55b9e09ca730f6d36761aca070017dd70020506b5cf1a67183221dc4c0e6b979", func := "bedrock/bedrocklaw30.QueueFree", spec := "queueFree", unfollowed := true, recurses := true, named := ["bedrock/crc.nibbles"], apart := false, laid := [("bedrock/crc.nibbles", laid_bedrock_crc_nibbles)] }
def QueueFreeSaid : Prop := queueFreeRow.holds Tryz.pinned (OpenSpec.ofChange queueFreeSpec)

/-- ITS FALSE NEIGHBOUR: 'it returns false'. Refute it at one input. -/
def queueFreeWrong : ChangeSpec := { name := "queueFree", fn := fun _ => fun
  | [d1, d2, d3] => { results := [.lit (.bool false)], args := [d1, d2, d3] }
  | _ => none }
def QueueFreeWrongFalsely : Prop := queueFreeRow.holds Tryz.pinned (OpenSpec.ofChange queueFreeWrong)

/-- 'bedrocklaw30.QueueDurable': WHATEVER THE INPUT: true; the input reads as it did. -/
def queueDurableSpec : ChangeSpec := { name := "queueDurable", fn := fun _ => fun
  | [d1, d2, d3] => { results := [.lit (.bool true)], args := [d1, d2, d3] }
  | _ => none }
def queueDurableRow : OpenClaim := { program := "ytaefkelaffijbaagreatdoor", sum := "55b9e09ca730f6d36761aca070017dd70020506b5cf1a67183221dc4c0e6b979", func := "bedrock/bedrocklaw30.QueueDurable", spec := "queueDurable", unfollowed := true, recurses := true, named := ["bedrock/crc.nibbles"], apart := false, laid := [("bedrock/crc.nibbles", laid_bedrock_crc_nibbles)] }
def QueueDurableSaid : Prop := queueDurableRow.holds Tryz.pinned (OpenSpec.ofChange queueDurableSpec)

/-- ITS FALSE NEIGHBOUR: 'it returns false'. Refute it at one input. -/
def queueDurableWrong : ChangeSpec := { name := "queueDurable", fn := fun _ => fun
  | [d1, d2, d3] => { results := [.lit (.bool false)], args := [d1, d2, d3] }
  | _ => none }
def QueueDurableWrongFalsely : Prop := queueDurableRow.holds Tryz.pinned (OpenSpec.ofChange queueDurableWrong)

/- THE SECOND FORM. 'bulk': how many values and letters a reading holds, each counted each time it is reached (what is shared counts as often as it is met; a slice's spare places count too). A statement '..UptoSaid' is the law's where the arguments, and the package variables that the reading takes, are together of bulk at most 1048576: NARROWER than '..Said'. Prove '..Said' where nothing that the law and all that it calls make is longer than what came in: it says more and counts as full. Else prove '..UptoSaid'. A law counts once. -/
mutual
def uptoBulk {H : Type} : DataW H → Nat
  | .lit (.string bytes) => bytes.length + 1
  | .lit _ => 1
  | .nil => 1
  | .ptr d => uptoBulk d + 1
  | .slice elems spare => uptoBulkAll elems + uptoBulkAll spare + 1
  | .agg parts => uptoBulkAll parts + 1
  | .iface _ d => uptoBulk d + 1
  | .map entries => uptoBulkEntries entries + 1
  | .held _ => 1
def uptoBulkAll {H : Type} : List (DataW H) → Nat
  | [] => 0
  | d :: r => uptoBulk d + uptoBulkAll r
def uptoBulkEntries {H : Type} : List (Lit × DataW H) → Nat
  | [] => 0
  | x :: r => uptoBulkEntry x + uptoBulkEntries r
def uptoBulkEntry {H : Type} : Lit × DataW H → Nat
  | (.string bytes, d) => bytes.length + uptoBulk d + 1
  | (_, d) => uptoBulk d + 1
 end
def uptoSmall : (H : Type) → List (DataW H) → Bool := fun _ ds => decide (uptoBulkAll ds ≤ 1048576)
def OpenSpec.upto (s : _root_.Go.ChangeSpec) : _root_.Go.OpenSpec := { _root_.Go.OpenSpec.ofChange s with cond := some uptoSmall }

/-- 'bedrocklaw30.QueueCounts', WHERE WHAT IT READS IS OF BULK AT MOST 1048576: true; the input reads as it did. -/
def queueCountsUptoRow : OpenClaim := { program := "ytaefkelaffijbaagreatdoor", sum := "55b9e09ca730f6d36761aca070017dd70020506b5cf1a67183221dc4c0e6b979", func := "bedrock/bedrocklaw30.QueueCounts", spec := "queueCounts", unfollowed := true, recurses := true, named := ["bedrock/crc.nibbles"], apart := false, laid := [("bedrock/crc.nibbles", laid_bedrock_crc_nibbles)], narrowed := true }
def QueueCountsUptoSaid : Prop := queueCountsUptoRow.holds Tryz.pinned (OpenSpec.upto queueCountsSpec)

/-- 'bedrocklaw30.QueueOrders', WHERE WHAT IT READS IS OF BULK AT MOST 1048576: true; the input reads as it did. -/
def queueOrdersUptoRow : OpenClaim := { program := "ytaefkelaffijbaagreatdoor", sum := "55b9e09ca730f6d36761aca070017dd70020506b5cf1a67183221dc4c0e6b979", func := "bedrock/bedrocklaw30.QueueOrders", spec := "queueOrders", unfollowed := true, recurses := true, named := ["bedrock/crc.nibbles"], apart := false, laid := [("bedrock/crc.nibbles", laid_bedrock_crc_nibbles)], narrowed := true }
def QueueOrdersUptoSaid : Prop := queueOrdersUptoRow.holds Tryz.pinned (OpenSpec.upto queueOrdersSpec)

/-- 'bedrocklaw30.QueueBegins', WHERE WHAT IT READS IS OF BULK AT MOST 1048576: true; the input reads as it did. -/
def queueBeginsUptoRow : OpenClaim := { program := "ytaefkelaffijbaagreatdoor", sum := "55b9e09ca730f6d36761aca070017dd70020506b5cf1a67183221dc4c0e6b979", func := "bedrock/bedrocklaw30.QueueBegins", spec := "queueBegins", unfollowed := true, recurses := true, named := ["bedrock/crc.nibbles"], apart := false, laid := [("bedrock/crc.nibbles", laid_bedrock_crc_nibbles)], narrowed := true }
def QueueBeginsUptoSaid : Prop := queueBeginsUptoRow.holds Tryz.pinned (OpenSpec.upto queueBeginsSpec)

/-- 'bedrocklaw30.QueuePlays', WHERE WHAT IT READS IS OF BULK AT MOST 1048576: true; the input reads as it did. -/
def queuePlaysUptoRow : OpenClaim := { program := "ytaefkelaffijbaagreatdoor", sum := "55b9e09ca730f6d36761aca070017dd70020506b5cf1a67183221dc4c0e6b979", func := "bedrock/bedrocklaw30.QueuePlays", spec := "queuePlays", unfollowed := true, recurses := true, named := ["bedrock/crc.nibbles"], apart := false, laid := [("bedrock/crc.nibbles", laid_bedrock_crc_nibbles)], narrowed := true }
def QueuePlaysUptoSaid : Prop := queuePlaysUptoRow.holds Tryz.pinned (OpenSpec.upto queuePlaysSpec)

/-- 'bedrocklaw30.QueueLinear', WHERE WHAT IT READS IS OF BULK AT MOST 1048576: true; the input reads as it did. -/
def queueLinearUptoRow : OpenClaim := { program := "ytaefkelaffijbaagreatdoor", sum := "55b9e09ca730f6d36761aca070017dd70020506b5cf1a67183221dc4c0e6b979", func := "bedrock/bedrocklaw30.QueueLinear", spec := "queueLinear", unfollowed := true, recurses := true, named := ["bedrock/crc.nibbles"], apart := false, laid := [("bedrock/crc.nibbles", laid_bedrock_crc_nibbles)], narrowed := true }
def QueueLinearUptoSaid : Prop := queueLinearUptoRow.holds Tryz.pinned (OpenSpec.upto queueLinearSpec)

/-- 'bedrocklaw30.QueueFree', WHERE WHAT IT READS IS OF BULK AT MOST 1048576: true; the input reads as it did. -/
def queueFreeUptoRow : OpenClaim := { program := "ytaefkelaffijbaagreatdoor", sum := "55b9e09ca730f6d36761aca070017dd70020506b5cf1a67183221dc4c0e6b979", func := "bedrock/bedrocklaw30.QueueFree", spec := "queueFree", unfollowed := true, recurses := true, named := ["bedrock/crc.nibbles"], apart := false, laid := [("bedrock/crc.nibbles", laid_bedrock_crc_nibbles)], narrowed := true }
def QueueFreeUptoSaid : Prop := queueFreeUptoRow.holds Tryz.pinned (OpenSpec.upto queueFreeSpec)

/-- 'bedrocklaw30.QueueDurable', WHERE WHAT IT READS IS OF BULK AT MOST 1048576: true; the input reads as it did. -/
def queueDurableUptoRow : OpenClaim := { program := "ytaefkelaffijbaagreatdoor", sum := "55b9e09ca730f6d36761aca070017dd70020506b5cf1a67183221dc4c0e6b979", func := "bedrock/bedrocklaw30.QueueDurable", spec := "queueDurable", unfollowed := true, recurses := true, named := ["bedrock/crc.nibbles"], apart := false, laid := [("bedrock/crc.nibbles", laid_bedrock_crc_nibbles)], narrowed := true }
def QueueDurableUptoSaid : Prop := queueDurableUptoRow.holds Tryz.pinned (OpenSpec.upto queueDurableSpec)

end Rows
end Go.Proofs.YtaefkelaffijbaaGreatDoor
