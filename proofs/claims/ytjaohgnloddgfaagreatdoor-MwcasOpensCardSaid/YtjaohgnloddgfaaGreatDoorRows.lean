/-
  NARROWER THAN 'FOR EVERY INPUT', by the rows' own cells (each row's printed sentence says how): MwcasBegins: laid · MwcasCounts: laid · MwcasFree: laid · MwcasExact: laid · MwcasLinear: laid · MwcasSolo: laid · MwcasOpens: laid · MwcasKeeps: laid · MwcasCrash: laid · MwcasLooks: laid.
  DERIVED. THE GIVEN ROWS OF THIS SEAT. 10 by the template 'for every input the law returns true; each argument reads behind the call as it read before'; 0 by the template 'total and deterministic' (their statements: YtjaohgnloddgfaaGreatDoorTotals.lean).
  GIVEN WITH THE SEED: the statements are not yours to turn. If you find one false, say at which input.
  Laid BY PROGRAM, IN A SANDBOX (cutbox-rows.mjs): the forced cells as the released guide's own fill.sh prints them over the translation 9deccfd9f6441a9e… (all of the seat's roots in one cut). By AI agents, Wed Nov 11 2026. No macro, syntax, notation, axiom, sorry.
-/
import Derived.Test.YtjaohgnloddgfaaGreatDoorChecked
import GoSem.Claim
import GoSem.ClaimJoined
import GoSem.ClaimMapViews
import Derived.JoinedTies
import Derived.KernelRfl
namespace Go.Proofs.YtjaohgnloddgfaaGreatDoor
/- THE CELL 'sum', in the pinned program and in every row, IS THE sha256 OF THE DUMP (.gsa) THAT YtjaohgnloddgfaaGreatDoorProg.lean LOADS. Nothing in Lean hashes anything: it is a label: what it is worth is what the hold of that sum in a sandbox is worth. -/
noncomputable def Tryz.pinned : Pinned := { name := "ytjaohgnloddgfaagreatdoor", sum := "9deccfd9f6441a9eb7b32074718a4b0b57a4f175bccfbf4eb36ffda674e0f4e7", checked := Tryz.checked }
namespace Rows
def none {H : Type} : Left H := { results := [], args := [] }

/- WHAT THE LISTED PACKAGE-LEVEL VARIABLES READ AS WHEN THE CALL BEGINS. Each datum BY PROGRAM (the guide's laid-datum.mjs) off the statement by which the dump's own 'gosem.cut.vars' lays the variable. In a bare row this is a premise. The card (YtjaohgnloddgfaaGreatDoorCards.lean) ties it to the program's text. -/
def laid_bedrock_crc_nibbles {H : Type} : DataW H := .agg [.lit (.int .u32 0), .lit (.int .u32 274646895), .lit (.int .u32 549293790), .lit (.int .u32 820201905), .lit (.int .u32 1098587580), .lit (.int .u32 1361435347), .lit (.int .u32 1640403810), .lit (.int .u32 1905808397), .lit (.int .u32 2197175160), .lit (.int .u32 2460548119), .lit (.int .u32 2722870694), .lit (.int .u32 2987750089), .lit (.int .u32 3280807620), .lit (.int .u32 3553878443), .lit (.int .u32 3811616794), .lit (.int .u32 4084100981)]

/-- 'bedrocklaw17.MwcasBegins': WHATEVER THE INPUT: true; the input reads as it did. -/
def mwcasBeginsSpec : ChangeSpec := { name := "mwcasBegins", fn := fun _ => fun
  | [d1, d2, d3] => { results := [.lit (.bool true)], args := [d1, d2, d3] }
  | _ => none }
def mwcasBeginsRow : OpenClaim := { program := "ytjaohgnloddgfaagreatdoor", sum := "9deccfd9f6441a9eb7b32074718a4b0b57a4f175bccfbf4eb36ffda674e0f4e7", func := "bedrock/bedrocklaw17.MwcasBegins", spec := "mwcasBegins", unfollowed := true, recurses := true, named := ["bedrock/crc.nibbles"], apart := false, laid := [("bedrock/crc.nibbles", laid_bedrock_crc_nibbles)] }
def MwcasBeginsSaid : Prop := mwcasBeginsRow.holds Tryz.pinned (OpenSpec.ofChange mwcasBeginsSpec)

/-- ITS FALSE NEIGHBOUR: 'it returns false'. Refute it at one input. -/
def mwcasBeginsWrong : ChangeSpec := { name := "mwcasBegins", fn := fun _ => fun
  | [d1, d2, d3] => { results := [.lit (.bool false)], args := [d1, d2, d3] }
  | _ => none }
def MwcasBeginsWrongFalsely : Prop := mwcasBeginsRow.holds Tryz.pinned (OpenSpec.ofChange mwcasBeginsWrong)

/-- 'bedrocklaw17.MwcasCounts': WHATEVER THE INPUT: true; the input reads as it did. -/
def mwcasCountsSpec : ChangeSpec := { name := "mwcasCounts", fn := fun _ => fun
  | [d1, d2, d3] => { results := [.lit (.bool true)], args := [d1, d2, d3] }
  | _ => none }
def mwcasCountsRow : OpenClaim := { program := "ytjaohgnloddgfaagreatdoor", sum := "9deccfd9f6441a9eb7b32074718a4b0b57a4f175bccfbf4eb36ffda674e0f4e7", func := "bedrock/bedrocklaw17.MwcasCounts", spec := "mwcasCounts", unfollowed := true, recurses := true, named := ["bedrock/crc.nibbles"], apart := false, laid := [("bedrock/crc.nibbles", laid_bedrock_crc_nibbles)] }
def MwcasCountsSaid : Prop := mwcasCountsRow.holds Tryz.pinned (OpenSpec.ofChange mwcasCountsSpec)

/-- ITS FALSE NEIGHBOUR: 'it returns false'. Refute it at one input. -/
def mwcasCountsWrong : ChangeSpec := { name := "mwcasCounts", fn := fun _ => fun
  | [d1, d2, d3] => { results := [.lit (.bool false)], args := [d1, d2, d3] }
  | _ => none }
def MwcasCountsWrongFalsely : Prop := mwcasCountsRow.holds Tryz.pinned (OpenSpec.ofChange mwcasCountsWrong)

/-- 'bedrocklaw17.MwcasFree': WHATEVER THE INPUT: true; the input reads as it did. -/
def mwcasFreeSpec : ChangeSpec := { name := "mwcasFree", fn := fun _ => fun
  | [d1, d2, d3] => { results := [.lit (.bool true)], args := [d1, d2, d3] }
  | _ => none }
def mwcasFreeRow : OpenClaim := { program := "ytjaohgnloddgfaagreatdoor", sum := "9deccfd9f6441a9eb7b32074718a4b0b57a4f175bccfbf4eb36ffda674e0f4e7", func := "bedrock/bedrocklaw17.MwcasFree", spec := "mwcasFree", unfollowed := true, recurses := true, named := ["bedrock/crc.nibbles"], apart := false, laid := [("bedrock/crc.nibbles", laid_bedrock_crc_nibbles)] }
def MwcasFreeSaid : Prop := mwcasFreeRow.holds Tryz.pinned (OpenSpec.ofChange mwcasFreeSpec)

/-- ITS FALSE NEIGHBOUR: 'it returns false'. Refute it at one input. -/
def mwcasFreeWrong : ChangeSpec := { name := "mwcasFree", fn := fun _ => fun
  | [d1, d2, d3] => { results := [.lit (.bool false)], args := [d1, d2, d3] }
  | _ => none }
def MwcasFreeWrongFalsely : Prop := mwcasFreeRow.holds Tryz.pinned (OpenSpec.ofChange mwcasFreeWrong)

/-- 'bedrocklaw17.MwcasExact': WHATEVER THE INPUT: true; the input reads as it did. -/
def mwcasExactSpec : ChangeSpec := { name := "mwcasExact", fn := fun _ => fun
  | [d1, d2, d3] => { results := [.lit (.bool true)], args := [d1, d2, d3] }
  | _ => none }
def mwcasExactRow : OpenClaim := { program := "ytjaohgnloddgfaagreatdoor", sum := "9deccfd9f6441a9eb7b32074718a4b0b57a4f175bccfbf4eb36ffda674e0f4e7", func := "bedrock/bedrocklaw17.MwcasExact", spec := "mwcasExact", unfollowed := true, recurses := true, named := ["bedrock/crc.nibbles"], apart := false, laid := [("bedrock/crc.nibbles", laid_bedrock_crc_nibbles)] }
def MwcasExactSaid : Prop := mwcasExactRow.holds Tryz.pinned (OpenSpec.ofChange mwcasExactSpec)

/-- ITS FALSE NEIGHBOUR: 'it returns false'. Refute it at one input. -/
def mwcasExactWrong : ChangeSpec := { name := "mwcasExact", fn := fun _ => fun
  | [d1, d2, d3] => { results := [.lit (.bool false)], args := [d1, d2, d3] }
  | _ => none }
def MwcasExactWrongFalsely : Prop := mwcasExactRow.holds Tryz.pinned (OpenSpec.ofChange mwcasExactWrong)

/-- 'bedrocklaw17.MwcasLinear': WHATEVER THE INPUT: true; the input reads as it did. -/
def mwcasLinearSpec : ChangeSpec := { name := "mwcasLinear", fn := fun _ => fun
  | [d1, d2, d3] => { results := [.lit (.bool true)], args := [d1, d2, d3] }
  | _ => none }
def mwcasLinearRow : OpenClaim := { program := "ytjaohgnloddgfaagreatdoor", sum := "9deccfd9f6441a9eb7b32074718a4b0b57a4f175bccfbf4eb36ffda674e0f4e7", func := "bedrock/bedrocklaw17.MwcasLinear", spec := "mwcasLinear", unfollowed := true, recurses := true, named := ["bedrock/crc.nibbles"], apart := false, laid := [("bedrock/crc.nibbles", laid_bedrock_crc_nibbles)] }
def MwcasLinearSaid : Prop := mwcasLinearRow.holds Tryz.pinned (OpenSpec.ofChange mwcasLinearSpec)

/-- ITS FALSE NEIGHBOUR: 'it returns false'. Refute it at one input. -/
def mwcasLinearWrong : ChangeSpec := { name := "mwcasLinear", fn := fun _ => fun
  | [d1, d2, d3] => { results := [.lit (.bool false)], args := [d1, d2, d3] }
  | _ => none }
def MwcasLinearWrongFalsely : Prop := mwcasLinearRow.holds Tryz.pinned (OpenSpec.ofChange mwcasLinearWrong)

/-- 'bedrocklaw17.MwcasSolo': WHATEVER THE INPUT: true; the input reads as it did. -/
def mwcasSoloSpec : ChangeSpec := { name := "mwcasSolo", fn := fun _ => fun
  | [d1, d2] => { results := [.lit (.bool true)], args := [d1, d2] }
  | _ => none }
def mwcasSoloRow : OpenClaim := { program := "ytjaohgnloddgfaagreatdoor", sum := "9deccfd9f6441a9eb7b32074718a4b0b57a4f175bccfbf4eb36ffda674e0f4e7", func := "bedrock/bedrocklaw17.MwcasSolo", spec := "mwcasSolo", unfollowed := true, recurses := true, named := ["bedrock/crc.nibbles"], apart := false, laid := [("bedrock/crc.nibbles", laid_bedrock_crc_nibbles)] }
def MwcasSoloSaid : Prop := mwcasSoloRow.holds Tryz.pinned (OpenSpec.ofChange mwcasSoloSpec)

/-- ITS FALSE NEIGHBOUR: 'it returns false'. Refute it at one input. -/
def mwcasSoloWrong : ChangeSpec := { name := "mwcasSolo", fn := fun _ => fun
  | [d1, d2] => { results := [.lit (.bool false)], args := [d1, d2] }
  | _ => none }
def MwcasSoloWrongFalsely : Prop := mwcasSoloRow.holds Tryz.pinned (OpenSpec.ofChange mwcasSoloWrong)

/-- 'bedrocklaw17.MwcasOpens': WHATEVER THE INPUT: true; the input reads as it did. -/
def mwcasOpensSpec : ChangeSpec := { name := "mwcasOpens", fn := fun _ => fun
  | [d1, d2] => { results := [.lit (.bool true)], args := [d1, d2] }
  | _ => none }
def mwcasOpensRow : OpenClaim := { program := "ytjaohgnloddgfaagreatdoor", sum := "9deccfd9f6441a9eb7b32074718a4b0b57a4f175bccfbf4eb36ffda674e0f4e7", func := "bedrock/bedrocklaw17.MwcasOpens", spec := "mwcasOpens", unfollowed := true, recurses := true, named := ["bedrock/crc.nibbles"], apart := false, laid := [("bedrock/crc.nibbles", laid_bedrock_crc_nibbles)] }
def MwcasOpensSaid : Prop := mwcasOpensRow.holds Tryz.pinned (OpenSpec.ofChange mwcasOpensSpec)

/-- ITS FALSE NEIGHBOUR: 'it returns false'. Refute it at one input. -/
def mwcasOpensWrong : ChangeSpec := { name := "mwcasOpens", fn := fun _ => fun
  | [d1, d2] => { results := [.lit (.bool false)], args := [d1, d2] }
  | _ => none }
def MwcasOpensWrongFalsely : Prop := mwcasOpensRow.holds Tryz.pinned (OpenSpec.ofChange mwcasOpensWrong)

/-- 'bedrocklaw17.MwcasKeeps': WHATEVER THE INPUT: true; the input reads as it did. -/
def mwcasKeepsSpec : ChangeSpec := { name := "mwcasKeeps", fn := fun _ => fun
  | [d1, d2, d3] => { results := [.lit (.bool true)], args := [d1, d2, d3] }
  | _ => none }
def mwcasKeepsRow : OpenClaim := { program := "ytjaohgnloddgfaagreatdoor", sum := "9deccfd9f6441a9eb7b32074718a4b0b57a4f175bccfbf4eb36ffda674e0f4e7", func := "bedrock/bedrocklaw17.MwcasKeeps", spec := "mwcasKeeps", unfollowed := true, recurses := true, named := ["bedrock/crc.nibbles"], apart := false, laid := [("bedrock/crc.nibbles", laid_bedrock_crc_nibbles)] }
def MwcasKeepsSaid : Prop := mwcasKeepsRow.holds Tryz.pinned (OpenSpec.ofChange mwcasKeepsSpec)

/-- ITS FALSE NEIGHBOUR: 'it returns false'. Refute it at one input. -/
def mwcasKeepsWrong : ChangeSpec := { name := "mwcasKeeps", fn := fun _ => fun
  | [d1, d2, d3] => { results := [.lit (.bool false)], args := [d1, d2, d3] }
  | _ => none }
def MwcasKeepsWrongFalsely : Prop := mwcasKeepsRow.holds Tryz.pinned (OpenSpec.ofChange mwcasKeepsWrong)

/-- 'bedrocklaw17.MwcasCrash': WHATEVER THE INPUT: true; the input reads as it did. -/
def mwcasCrashSpec : ChangeSpec := { name := "mwcasCrash", fn := fun _ => fun
  | [d1, d2, d3] => { results := [.lit (.bool true)], args := [d1, d2, d3] }
  | _ => none }
def mwcasCrashRow : OpenClaim := { program := "ytjaohgnloddgfaagreatdoor", sum := "9deccfd9f6441a9eb7b32074718a4b0b57a4f175bccfbf4eb36ffda674e0f4e7", func := "bedrock/bedrocklaw17.MwcasCrash", spec := "mwcasCrash", unfollowed := true, recurses := true, named := ["bedrock/crc.nibbles"], apart := false, laid := [("bedrock/crc.nibbles", laid_bedrock_crc_nibbles)] }
def MwcasCrashSaid : Prop := mwcasCrashRow.holds Tryz.pinned (OpenSpec.ofChange mwcasCrashSpec)

/-- ITS FALSE NEIGHBOUR: 'it returns false'. Refute it at one input. -/
def mwcasCrashWrong : ChangeSpec := { name := "mwcasCrash", fn := fun _ => fun
  | [d1, d2, d3] => { results := [.lit (.bool false)], args := [d1, d2, d3] }
  | _ => none }
def MwcasCrashWrongFalsely : Prop := mwcasCrashRow.holds Tryz.pinned (OpenSpec.ofChange mwcasCrashWrong)

/-- 'bedrocklaw17.MwcasLooks': WHATEVER THE INPUT: true; the input reads as it did. -/
def mwcasLooksSpec : ChangeSpec := { name := "mwcasLooks", fn := fun _ => fun
  | [d1, d2, d3] => { results := [.lit (.bool true)], args := [d1, d2, d3] }
  | _ => none }
def mwcasLooksRow : OpenClaim := { program := "ytjaohgnloddgfaagreatdoor", sum := "9deccfd9f6441a9eb7b32074718a4b0b57a4f175bccfbf4eb36ffda674e0f4e7", func := "bedrock/bedrocklaw17.MwcasLooks", spec := "mwcasLooks", unfollowed := true, recurses := true, named := ["bedrock/crc.nibbles"], apart := false, laid := [("bedrock/crc.nibbles", laid_bedrock_crc_nibbles)] }
def MwcasLooksSaid : Prop := mwcasLooksRow.holds Tryz.pinned (OpenSpec.ofChange mwcasLooksSpec)

/-- ITS FALSE NEIGHBOUR: 'it returns false'. Refute it at one input. -/
def mwcasLooksWrong : ChangeSpec := { name := "mwcasLooks", fn := fun _ => fun
  | [d1, d2, d3] => { results := [.lit (.bool false)], args := [d1, d2, d3] }
  | _ => none }
def MwcasLooksWrongFalsely : Prop := mwcasLooksRow.holds Tryz.pinned (OpenSpec.ofChange mwcasLooksWrong)

/- THE SECOND FORM. 'bulk': how many values and letters a reading holds, each counted each time it is reached (what is shared counts as often as it is met; a slice's spare places count too). A statement '..UptoSaid' is the law's where the arguments, and the package variables that the reading takes, are together of bulk at most 1048576: NARROWER than '..Said'. Prove '..Said' where nothing that the law and all that it calls make is longer than what came in: it says more and counts as full. Else prove '..UptoSaid'. A law counts once. -/
mutual
def uptoBulk {H : Type} : DataW H → Nat
  | .lit (.string bytes) => bytes.length + 1
  | .lit _ => 1
  | .nil => 1
  | .ptr d => uptoBulk d + 1
  | .slice elems spare => uptoBulkAll elems + uptoBulkAll spare + 1
  | .agg parts => uptoBulkAll parts + 1
  | .iface _ d => uptoBulk d + 1
  | .map entries => uptoBulkEntries entries + 1
  | .held _ => 1
def uptoBulkAll {H : Type} : List (DataW H) → Nat
  | [] => 0
  | d :: r => uptoBulk d + uptoBulkAll r
def uptoBulkEntries {H : Type} : List (Lit × DataW H) → Nat
  | [] => 0
  | x :: r => uptoBulkEntry x + uptoBulkEntries r
def uptoBulkEntry {H : Type} : Lit × DataW H → Nat
  | (.string bytes, d) => bytes.length + uptoBulk d + 1
  | (_, d) => uptoBulk d + 1
 end
def uptoSmall : (H : Type) → List (DataW H) → Bool := fun _ ds => decide (uptoBulkAll ds ≤ 1048576)
def OpenSpec.upto (s : _root_.Go.ChangeSpec) : _root_.Go.OpenSpec := { _root_.Go.OpenSpec.ofChange s with cond := some uptoSmall }

/-- 'bedrocklaw17.MwcasBegins', WHERE WHAT IT READS IS OF BULK AT MOST 1048576: true; the input reads as it did. -/
def mwcasBeginsUptoRow : OpenClaim := { program := "ytjaohgnloddgfaagreatdoor", sum := "9deccfd9f6441a9eb7b32074718a4b0b57a4f175bccfbf4eb36ffda674e0f4e7", func := "bedrock/bedrocklaw17.MwcasBegins", spec := "mwcasBegins", unfollowed := true, recurses := true, named := ["bedrock/crc.nibbles"], apart := false, laid := [("bedrock/crc.nibbles", laid_bedrock_crc_nibbles)], narrowed := true }
def MwcasBeginsUptoSaid : Prop := mwcasBeginsUptoRow.holds Tryz.pinned (OpenSpec.upto mwcasBeginsSpec)

/-- 'bedrocklaw17.MwcasCounts', WHERE WHAT IT READS IS OF BULK AT MOST 1048576: true; the input reads as it did. -/
def mwcasCountsUptoRow : OpenClaim := { program := "ytjaohgnloddgfaagreatdoor", sum := "9deccfd9f6441a9eb7b32074718a4b0b57a4f175bccfbf4eb36ffda674e0f4e7", func := "bedrock/bedrocklaw17.MwcasCounts", spec := "mwcasCounts", unfollowed := true, recurses := true, named := ["bedrock/crc.nibbles"], apart := false, laid := [("bedrock/crc.nibbles", laid_bedrock_crc_nibbles)], narrowed := true }
def MwcasCountsUptoSaid : Prop := mwcasCountsUptoRow.holds Tryz.pinned (OpenSpec.upto mwcasCountsSpec)

/-- 'bedrocklaw17.MwcasFree', WHERE WHAT IT READS IS OF BULK AT MOST 1048576: true; the input reads as it did. -/
def mwcasFreeUptoRow : OpenClaim := { program := "ytjaohgnloddgfaagreatdoor", sum := "9deccfd9f6441a9eb7b32074718a4b0b57a4f175bccfbf4eb36ffda674e0f4e7", func := "bedrock/bedrocklaw17.MwcasFree", spec := "mwcasFree", unfollowed := true, recurses := true, named := ["bedrock/crc.nibbles"], apart := false, laid := [("bedrock/crc.nibbles", laid_bedrock_crc_nibbles)], narrowed := true }
def MwcasFreeUptoSaid : Prop := mwcasFreeUptoRow.holds Tryz.pinned (OpenSpec.upto mwcasFreeSpec)

/-- 'bedrocklaw17.MwcasExact', WHERE WHAT IT READS IS OF BULK AT MOST 1048576: true; the input reads as it did. -/
def mwcasExactUptoRow : OpenClaim := { program := "ytjaohgnloddgfaagreatdoor", sum := "9deccfd9f6441a9eb7b32074718a4b0b57a4f175bccfbf4eb36ffda674e0f4e7", func := "bedrock/bedrocklaw17.MwcasExact", spec := "mwcasExact", unfollowed := true, recurses := true, named := ["bedrock/crc.nibbles"], apart := false, laid := [("bedrock/crc.nibbles", laid_bedrock_crc_nibbles)], narrowed := true }
def MwcasExactUptoSaid : Prop := mwcasExactUptoRow.holds Tryz.pinned (OpenSpec.upto mwcasExactSpec)

/-- 'bedrocklaw17.MwcasLinear', WHERE WHAT IT READS IS OF BULK AT MOST 1048576: true; the input reads as it did. -/
def mwcasLinearUptoRow : OpenClaim := { program := "ytjaohgnloddgfaagreatdoor", sum := "9deccfd9f6441a9eb7b32074718a4b0b57a4f175bccfbf4eb36ffda674e0f4e7", func := "bedrock/bedrocklaw17.MwcasLinear", spec := "mwcasLinear", unfollowed := true, recurses := true, named := ["bedrock/crc.nibbles"], apart := false, laid := [("bedrock/crc.nibbles", laid_bedrock_crc_nibbles)], narrowed := true }
def MwcasLinearUptoSaid : Prop := mwcasLinearUptoRow.holds Tryz.pinned (OpenSpec.upto mwcasLinearSpec)

/-- 'bedrocklaw17.MwcasSolo', WHERE WHAT IT READS IS OF BULK AT MOST 1048576: true; the input reads as it did. -/
def mwcasSoloUptoRow : OpenClaim := { program := "ytjaohgnloddgfaagreatdoor", sum := "9deccfd9f6441a9eb7b32074718a4b0b57a4f175bccfbf4eb36ffda674e0f4e7", func := "bedrock/bedrocklaw17.MwcasSolo", spec := "mwcasSolo", unfollowed := true, recurses := true, named := ["bedrock/crc.nibbles"], apart := false, laid := [("bedrock/crc.nibbles", laid_bedrock_crc_nibbles)], narrowed := true }
def MwcasSoloUptoSaid : Prop := mwcasSoloUptoRow.holds Tryz.pinned (OpenSpec.upto mwcasSoloSpec)

/-- 'bedrocklaw17.MwcasOpens', WHERE WHAT IT READS IS OF BULK AT MOST 1048576: true; the input reads as it did. -/
def mwcasOpensUptoRow : OpenClaim := { program := "ytjaohgnloddgfaagreatdoor", sum := "9deccfd9f6441a9eb7b32074718a4b0b57a4f175bccfbf4eb36ffda674e0f4e7", func := "bedrock/bedrocklaw17.MwcasOpens", spec := "mwcasOpens", unfollowed := true, recurses := true, named := ["bedrock/crc.nibbles"], apart := false, laid := [("bedrock/crc.nibbles", laid_bedrock_crc_nibbles)], narrowed := true }
def MwcasOpensUptoSaid : Prop := mwcasOpensUptoRow.holds Tryz.pinned (OpenSpec.upto mwcasOpensSpec)

/-- 'bedrocklaw17.MwcasKeeps', WHERE WHAT IT READS IS OF BULK AT MOST 1048576: true; the input reads as it did. -/
def mwcasKeepsUptoRow : OpenClaim := { program := "ytjaohgnloddgfaagreatdoor", sum := "9deccfd9f6441a9eb7b32074718a4b0b57a4f175bccfbf4eb36ffda674e0f4e7", func := "bedrock/bedrocklaw17.MwcasKeeps", spec := "mwcasKeeps", unfollowed := true, recurses := true, named := ["bedrock/crc.nibbles"], apart := false, laid := [("bedrock/crc.nibbles", laid_bedrock_crc_nibbles)], narrowed := true }
def MwcasKeepsUptoSaid : Prop := mwcasKeepsUptoRow.holds Tryz.pinned (OpenSpec.upto mwcasKeepsSpec)

/-- 'bedrocklaw17.MwcasCrash', WHERE WHAT IT READS IS OF BULK AT MOST 1048576: true; the input reads as it did. -/
def mwcasCrashUptoRow : OpenClaim := { program := "ytjaohgnloddgfaagreatdoor", sum := "9deccfd9f6441a9eb7b32074718a4b0b57a4f175bccfbf4eb36ffda674e0f4e7", func := "bedrock/bedrocklaw17.MwcasCrash", spec := "mwcasCrash", unfollowed := true, recurses := true, named := ["bedrock/crc.nibbles"], apart := false, laid := [("bedrock/crc.nibbles", laid_bedrock_crc_nibbles)], narrowed := true }
def MwcasCrashUptoSaid : Prop := mwcasCrashUptoRow.holds Tryz.pinned (OpenSpec.upto mwcasCrashSpec)

/-- 'bedrocklaw17.MwcasLooks', WHERE WHAT IT READS IS OF BULK AT MOST 1048576: true; the input reads as it did. -/
def mwcasLooksUptoRow : OpenClaim := { program := "ytjaohgnloddgfaagreatdoor", sum := "9deccfd9f6441a9eb7b32074718a4b0b57a4f175bccfbf4eb36ffda674e0f4e7", func := "bedrock/bedrocklaw17.MwcasLooks", spec := "mwcasLooks", unfollowed := true, recurses := true, named := ["bedrock/crc.nibbles"], apart := false, laid := [("bedrock/crc.nibbles", laid_bedrock_crc_nibbles)], narrowed := true }
def MwcasLooksUptoSaid : Prop := mwcasLooksUptoRow.holds Tryz.pinned (OpenSpec.upto mwcasLooksSpec)

end Rows
end Go.Proofs.YtjaohgnloddgfaaGreatDoor
