/-
  NARROWER THAN 'FOR EVERY INPUT', by the rows' own cells (each row's printed sentence says how): LtableKeys: laid · LtableBegins: laid · LtablePlays: laid · LtableFills: laid · LtableLinear: laid · LtableFree: laid · LtableDurable: laid.
  DERIVED. THE GIVEN ROWS OF THIS SEAT. 7 by the template 'for every input the law returns true; each argument reads behind the call as it read before'; 0 by the template 'total and deterministic' (their statements: YtjkpjakodomnmaaGreatDoorTotals.lean).
  GIVEN WITH THE SEED: the statements are not yours to turn. If you find one false, say at which input.
  Laid BY PROGRAM, IN A SANDBOX (cutbox-rows.mjs): the forced cells as the released guide's own fill.sh prints them over the translation f651fbcc4ad17b63… (all of the seat's roots in one cut). By AI agents, Wed Nov 11 2026. No macro, syntax, notation, axiom, sorry.
-/
import Derived.Test.YtjkpjakodomnmaaGreatDoorChecked
import GoSem.Claim
import GoSem.ClaimJoined
import GoSem.ClaimMapViews
import Derived.JoinedTies
import Derived.KernelRfl
namespace Go.Proofs.YtjkpjakodomnmaaGreatDoor
/- THE CELL 'sum', in the pinned program and in every row, IS THE sha256 OF THE DUMP (.gsa) THAT YtjkpjakodomnmaaGreatDoorProg.lean LOADS. Nothing in Lean hashes anything: it is a label: what it is worth is what the hold of that sum in a sandbox is worth. -/
noncomputable def Tryz.pinned : Pinned := { name := "ytjkpjakodomnmaagreatdoor", sum := "f651fbcc4ad17b630d5ae0a49793d36ed294146442912c569fa8236dec4cfbbb", checked := Tryz.checked }
namespace Rows
def none {H : Type} : Left H := { results := [], args := [] }

/- WHAT THE LISTED PACKAGE-LEVEL VARIABLES READ AS WHEN THE CALL BEGINS. Each datum BY PROGRAM (the guide's laid-datum.mjs) off the statement by which the dump's own 'gosem.cut.vars' lays the variable. In a bare row this is a premise. The card (YtjkpjakodomnmaaGreatDoorCards.lean) ties it to the program's text. -/
def laid_bedrock_crc_nibbles {H : Type} : DataW H := .agg [.lit (.int .u32 0), .lit (.int .u32 274646895), .lit (.int .u32 549293790), .lit (.int .u32 820201905), .lit (.int .u32 1098587580), .lit (.int .u32 1361435347), .lit (.int .u32 1640403810), .lit (.int .u32 1905808397), .lit (.int .u32 2197175160), .lit (.int .u32 2460548119), .lit (.int .u32 2722870694), .lit (.int .u32 2987750089), .lit (.int .u32 3280807620), .lit (.int .u32 3553878443), .lit (.int .u32 3811616794), .lit (.int .u32 4084100981)]

/-- 'bedrocklaw36.LtableKeys': WHATEVER THE INPUT: true; the input reads as it did. -/
def ltableKeysSpec : ChangeSpec := { name := "ltableKeys", fn := fun _ => fun
  | [d1, d2, d3] => { results := [.lit (.bool true)], args := [d1, d2, d3] }
  | _ => none }
def ltableKeysRow : OpenClaim := { program := "ytjkpjakodomnmaagreatdoor", sum := "f651fbcc4ad17b630d5ae0a49793d36ed294146442912c569fa8236dec4cfbbb", func := "bedrock/bedrocklaw36.LtableKeys", spec := "ltableKeys", unfollowed := true, recurses := true, named := ["bedrock/crc.nibbles"], apart := false, laid := [("bedrock/crc.nibbles", laid_bedrock_crc_nibbles)] }
def LtableKeysSaid : Prop := ltableKeysRow.holds Tryz.pinned (OpenSpec.ofChange ltableKeysSpec)

/-- ITS FALSE NEIGHBOUR: 'it returns false'. Refute it at one input. -/
def ltableKeysWrong : ChangeSpec := { name := "ltableKeys", fn := fun _ => fun
  | [d1, d2, d3] => { results := [.lit (.bool false)], args := [d1, d2, d3] }
  | _ => none }
def LtableKeysWrongFalsely : Prop := ltableKeysRow.holds Tryz.pinned (OpenSpec.ofChange ltableKeysWrong)

/-- 'bedrocklaw36.LtableBegins': WHATEVER THE INPUT: true; the input reads as it did. -/
def ltableBeginsSpec : ChangeSpec := { name := "ltableBegins", fn := fun _ => fun
  | [d] => { results := [.lit (.bool true)], args := [d] }
  | _ => none }
def ltableBeginsRow : OpenClaim := { program := "ytjkpjakodomnmaagreatdoor", sum := "f651fbcc4ad17b630d5ae0a49793d36ed294146442912c569fa8236dec4cfbbb", func := "bedrock/bedrocklaw36.LtableBegins", spec := "ltableBegins", unfollowed := true, recurses := true, named := ["bedrock/crc.nibbles"], apart := false, laid := [("bedrock/crc.nibbles", laid_bedrock_crc_nibbles)] }
def LtableBeginsSaid : Prop := ltableBeginsRow.holds Tryz.pinned (OpenSpec.ofChange ltableBeginsSpec)

/-- ITS FALSE NEIGHBOUR: 'it returns false'. Refute it at one input. -/
def ltableBeginsWrong : ChangeSpec := { name := "ltableBegins", fn := fun _ => fun
  | [d] => { results := [.lit (.bool false)], args := [d] }
  | _ => none }
def LtableBeginsWrongFalsely : Prop := ltableBeginsRow.holds Tryz.pinned (OpenSpec.ofChange ltableBeginsWrong)

/-- 'bedrocklaw36.LtablePlays': WHATEVER THE INPUT: true; the input reads as it did. -/
def ltablePlaysSpec : ChangeSpec := { name := "ltablePlays", fn := fun _ => fun
  | [d1, d2] => { results := [.lit (.bool true)], args := [d1, d2] }
  | _ => none }
def ltablePlaysRow : OpenClaim := { program := "ytjkpjakodomnmaagreatdoor", sum := "f651fbcc4ad17b630d5ae0a49793d36ed294146442912c569fa8236dec4cfbbb", func := "bedrock/bedrocklaw36.LtablePlays", spec := "ltablePlays", unfollowed := true, recurses := true, named := ["bedrock/crc.nibbles"], apart := false, laid := [("bedrock/crc.nibbles", laid_bedrock_crc_nibbles)] }
def LtablePlaysSaid : Prop := ltablePlaysRow.holds Tryz.pinned (OpenSpec.ofChange ltablePlaysSpec)

/-- ITS FALSE NEIGHBOUR: 'it returns false'. Refute it at one input. -/
def ltablePlaysWrong : ChangeSpec := { name := "ltablePlays", fn := fun _ => fun
  | [d1, d2] => { results := [.lit (.bool false)], args := [d1, d2] }
  | _ => none }
def LtablePlaysWrongFalsely : Prop := ltablePlaysRow.holds Tryz.pinned (OpenSpec.ofChange ltablePlaysWrong)

/-- 'bedrocklaw36.LtableFills': WHATEVER THE INPUT: true; the input reads as it did. -/
def ltableFillsSpec : ChangeSpec := { name := "ltableFills", fn := fun _ => fun
  | [d1, d2, d3] => { results := [.lit (.bool true)], args := [d1, d2, d3] }
  | _ => none }
def ltableFillsRow : OpenClaim := { program := "ytjkpjakodomnmaagreatdoor", sum := "f651fbcc4ad17b630d5ae0a49793d36ed294146442912c569fa8236dec4cfbbb", func := "bedrock/bedrocklaw36.LtableFills", spec := "ltableFills", unfollowed := true, recurses := true, named := ["bedrock/crc.nibbles"], apart := false, laid := [("bedrock/crc.nibbles", laid_bedrock_crc_nibbles)] }
def LtableFillsSaid : Prop := ltableFillsRow.holds Tryz.pinned (OpenSpec.ofChange ltableFillsSpec)

/-- ITS FALSE NEIGHBOUR: 'it returns false'. Refute it at one input. -/
def ltableFillsWrong : ChangeSpec := { name := "ltableFills", fn := fun _ => fun
  | [d1, d2, d3] => { results := [.lit (.bool false)], args := [d1, d2, d3] }
  | _ => none }
def LtableFillsWrongFalsely : Prop := ltableFillsRow.holds Tryz.pinned (OpenSpec.ofChange ltableFillsWrong)

/-- 'bedrocklaw36.LtableLinear': WHATEVER THE INPUT: true; the input reads as it did. -/
def ltableLinearSpec : ChangeSpec := { name := "ltableLinear", fn := fun _ => fun
  | [d1, d2, d3] => { results := [.lit (.bool true)], args := [d1, d2, d3] }
  | _ => none }
def ltableLinearRow : OpenClaim := { program := "ytjkpjakodomnmaagreatdoor", sum := "f651fbcc4ad17b630d5ae0a49793d36ed294146442912c569fa8236dec4cfbbb", func := "bedrock/bedrocklaw36.LtableLinear", spec := "ltableLinear", unfollowed := true, recurses := true, named := ["bedrock/crc.nibbles"], apart := false, laid := [("bedrock/crc.nibbles", laid_bedrock_crc_nibbles)] }
def LtableLinearSaid : Prop := ltableLinearRow.holds Tryz.pinned (OpenSpec.ofChange ltableLinearSpec)

/-- ITS FALSE NEIGHBOUR: 'it returns false'. Refute it at one input. -/
def ltableLinearWrong : ChangeSpec := { name := "ltableLinear", fn := fun _ => fun
  | [d1, d2, d3] => { results := [.lit (.bool false)], args := [d1, d2, d3] }
  | _ => none }
def LtableLinearWrongFalsely : Prop := ltableLinearRow.holds Tryz.pinned (OpenSpec.ofChange ltableLinearWrong)

/-- 'bedrocklaw36.LtableFree': WHATEVER THE INPUT: true; the input reads as it did. -/
def ltableFreeSpec : ChangeSpec := { name := "ltableFree", fn := fun _ => fun
  | [d1, d2, d3] => { results := [.lit (.bool true)], args := [d1, d2, d3] }
  | _ => none }
def ltableFreeRow : OpenClaim := { program := "ytjkpjakodomnmaagreatdoor", sum := "f651fbcc4ad17b630d5ae0a49793d36ed294146442912c569fa8236dec4cfbbb", func := "bedrock/bedrocklaw36.LtableFree", spec := "ltableFree", unfollowed := true, recurses := true, named := ["bedrock/crc.nibbles"], apart := false, laid := [("bedrock/crc.nibbles", laid_bedrock_crc_nibbles)] }
def LtableFreeSaid : Prop := ltableFreeRow.holds Tryz.pinned (OpenSpec.ofChange ltableFreeSpec)

/-- ITS FALSE NEIGHBOUR: 'it returns false'. Refute it at one input. -/
def ltableFreeWrong : ChangeSpec := { name := "ltableFree", fn := fun _ => fun
  | [d1, d2, d3] => { results := [.lit (.bool false)], args := [d1, d2, d3] }
  | _ => none }
def LtableFreeWrongFalsely : Prop := ltableFreeRow.holds Tryz.pinned (OpenSpec.ofChange ltableFreeWrong)

/-- 'bedrocklaw36.LtableDurable': WHATEVER THE INPUT: true; the input reads as it did. -/
def ltableDurableSpec : ChangeSpec := { name := "ltableDurable", fn := fun _ => fun
  | [d1, d2, d3] => { results := [.lit (.bool true)], args := [d1, d2, d3] }
  | _ => none }
def ltableDurableRow : OpenClaim := { program := "ytjkpjakodomnmaagreatdoor", sum := "f651fbcc4ad17b630d5ae0a49793d36ed294146442912c569fa8236dec4cfbbb", func := "bedrock/bedrocklaw36.LtableDurable", spec := "ltableDurable", unfollowed := true, recurses := true, named := ["bedrock/crc.nibbles"], apart := false, laid := [("bedrock/crc.nibbles", laid_bedrock_crc_nibbles)] }
def LtableDurableSaid : Prop := ltableDurableRow.holds Tryz.pinned (OpenSpec.ofChange ltableDurableSpec)

/-- ITS FALSE NEIGHBOUR: 'it returns false'. Refute it at one input. -/
def ltableDurableWrong : ChangeSpec := { name := "ltableDurable", fn := fun _ => fun
  | [d1, d2, d3] => { results := [.lit (.bool false)], args := [d1, d2, d3] }
  | _ => none }
def LtableDurableWrongFalsely : Prop := ltableDurableRow.holds Tryz.pinned (OpenSpec.ofChange ltableDurableWrong)

/- THE SECOND FORM. 'bulk': how many values and letters a reading holds, each counted each time it is reached (what is shared counts as often as it is met; a slice's spare places count too). A statement '..UptoSaid' is the law's where the arguments, and the package variables that the reading takes, are together of bulk at most 1048576: NARROWER than '..Said'. Prove '..Said' where nothing that the law and all that it calls make is longer than what came in: it says more and counts as full. Else prove '..UptoSaid'. A law counts once. -/
mutual
def uptoBulk {H : Type} : DataW H → Nat
  | .lit (.string bytes) => bytes.length + 1
  | .lit _ => 1
  | .nil => 1
  | .ptr d => uptoBulk d + 1
  | .slice elems spare => uptoBulkAll elems + uptoBulkAll spare + 1
  | .agg parts => uptoBulkAll parts + 1
  | .iface _ d => uptoBulk d + 1
  | .map entries => uptoBulkEntries entries + 1
  | .held _ => 1
def uptoBulkAll {H : Type} : List (DataW H) → Nat
  | [] => 0
  | d :: r => uptoBulk d + uptoBulkAll r
def uptoBulkEntries {H : Type} : List (Lit × DataW H) → Nat
  | [] => 0
  | x :: r => uptoBulkEntry x + uptoBulkEntries r
def uptoBulkEntry {H : Type} : Lit × DataW H → Nat
  | (.string bytes, d) => bytes.length + uptoBulk d + 1
  | (_, d) => uptoBulk d + 1
 end
def uptoSmall : (H : Type) → List (DataW H) → Bool := fun _ ds => decide (uptoBulkAll ds ≤ 1048576)
def OpenSpec.upto (s : _root_.Go.ChangeSpec) : _root_.Go.OpenSpec := { _root_.Go.OpenSpec.ofChange s with cond := some uptoSmall }

/-- 'bedrocklaw36.LtableKeys', WHERE WHAT IT READS IS OF BULK AT MOST 1048576: true; the input reads as it did. -/
def ltableKeysUptoRow : OpenClaim := { program := "ytjkpjakodomnmaagreatdoor", sum := "f651fbcc4ad17b630d5ae0a49793d36ed294146442912c569fa8236dec4cfbbb", func := "bedrock/bedrocklaw36.LtableKeys", spec := "ltableKeys", unfollowed := true, recurses := true, named := ["bedrock/crc.nibbles"], apart := false, laid := [("bedrock/crc.nibbles", laid_bedrock_crc_nibbles)], narrowed := true }
def LtableKeysUptoSaid : Prop := ltableKeysUptoRow.holds Tryz.pinned (OpenSpec.upto ltableKeysSpec)

/-- 'bedrocklaw36.LtableBegins', WHERE WHAT IT READS IS OF BULK AT MOST 1048576: true; the input reads as it did. -/
def ltableBeginsUptoRow : OpenClaim := { program := "ytjkpjakodomnmaagreatdoor", sum := "f651fbcc4ad17b630d5ae0a49793d36ed294146442912c569fa8236dec4cfbbb", func := "bedrock/bedrocklaw36.LtableBegins", spec := "ltableBegins", unfollowed := true, recurses := true, named := ["bedrock/crc.nibbles"], apart := false, laid := [("bedrock/crc.nibbles", laid_bedrock_crc_nibbles)], narrowed := true }
def LtableBeginsUptoSaid : Prop := ltableBeginsUptoRow.holds Tryz.pinned (OpenSpec.upto ltableBeginsSpec)

/-- 'bedrocklaw36.LtablePlays', WHERE WHAT IT READS IS OF BULK AT MOST 1048576: true; the input reads as it did. -/
def ltablePlaysUptoRow : OpenClaim := { program := "ytjkpjakodomnmaagreatdoor", sum := "f651fbcc4ad17b630d5ae0a49793d36ed294146442912c569fa8236dec4cfbbb", func := "bedrock/bedrocklaw36.LtablePlays", spec := "ltablePlays", unfollowed := true, recurses := true, named := ["bedrock/crc.nibbles"], apart := false, laid := [("bedrock/crc.nibbles", laid_bedrock_crc_nibbles)], narrowed := true }
def LtablePlaysUptoSaid : Prop := ltablePlaysUptoRow.holds Tryz.pinned (OpenSpec.upto ltablePlaysSpec)

/-- 'bedrocklaw36.LtableFills', WHERE WHAT IT READS IS OF BULK AT MOST 1048576: true; the input reads as it did. -/
def ltableFillsUptoRow : OpenClaim := { program := "ytjkpjakodomnmaagreatdoor", sum := "f651fbcc4ad17b630d5ae0a49793d36ed294146442912c569fa8236dec4cfbbb", func := "bedrock/bedrocklaw36.LtableFills", spec := "ltableFills", unfollowed := true, recurses := true, named := ["bedrock/crc.nibbles"], apart := false, laid := [("bedrock/crc.nibbles", laid_bedrock_crc_nibbles)], narrowed := true }
def LtableFillsUptoSaid : Prop := ltableFillsUptoRow.holds Tryz.pinned (OpenSpec.upto ltableFillsSpec)

/-- 'bedrocklaw36.LtableLinear', WHERE WHAT IT READS IS OF BULK AT MOST 1048576: true; the input reads as it did. -/
def ltableLinearUptoRow : OpenClaim := { program := "ytjkpjakodomnmaagreatdoor", sum := "f651fbcc4ad17b630d5ae0a49793d36ed294146442912c569fa8236dec4cfbbb", func := "bedrock/bedrocklaw36.LtableLinear", spec := "ltableLinear", unfollowed := true, recurses := true, named := ["bedrock/crc.nibbles"], apart := false, laid := [("bedrock/crc.nibbles", laid_bedrock_crc_nibbles)], narrowed := true }
def LtableLinearUptoSaid : Prop := ltableLinearUptoRow.holds Tryz.pinned (OpenSpec.upto ltableLinearSpec)

/-- 'bedrocklaw36.LtableFree', WHERE WHAT IT READS IS OF BULK AT MOST 1048576: true; the input reads as it did. -/
def ltableFreeUptoRow : OpenClaim := { program := "ytjkpjakodomnmaagreatdoor", sum := "f651fbcc4ad17b630d5ae0a49793d36ed294146442912c569fa8236dec4cfbbb", func := "bedrock/bedrocklaw36.LtableFree", spec := "ltableFree", unfollowed := true, recurses := true, named := ["bedrock/crc.nibbles"], apart := false, laid := [("bedrock/crc.nibbles", laid_bedrock_crc_nibbles)], narrowed := true }
def LtableFreeUptoSaid : Prop := ltableFreeUptoRow.holds Tryz.pinned (OpenSpec.upto ltableFreeSpec)

/-- 'bedrocklaw36.LtableDurable', WHERE WHAT IT READS IS OF BULK AT MOST 1048576: true; the input reads as it did. -/
def ltableDurableUptoRow : OpenClaim := { program := "ytjkpjakodomnmaagreatdoor", sum := "f651fbcc4ad17b630d5ae0a49793d36ed294146442912c569fa8236dec4cfbbb", func := "bedrock/bedrocklaw36.LtableDurable", spec := "ltableDurable", unfollowed := true, recurses := true, named := ["bedrock/crc.nibbles"], apart := false, laid := [("bedrock/crc.nibbles", laid_bedrock_crc_nibbles)], narrowed := true }
def LtableDurableUptoSaid : Prop := ltableDurableUptoRow.holds Tryz.pinned (OpenSpec.upto ltableDurableSpec)

end Rows
end Go.Proofs.YtjkpjakodomnmaaGreatDoor
