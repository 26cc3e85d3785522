/-
  DERIVED. GIVEN WITH THE SEED: THE CARDS: each row of YtjkpjakodomnmaaGreatDoorRows.lean that lists a variable, with what it lists TIED to the program's text (the seventh form; the later family's looks); each row that meets fmt, with fmt's text TOLD by the authors' own Lean function (tested against real Go, not proved from fmt's source: count such statements apart). THE CARD IS WHAT COUNTS. Prove the row's statement (the work); the ties are given (YtjkpjakodomnmaaGreatDoorTie.lean); close each card by the builder's one call (the guide's Derived/Test/ToyasCard.lean, 'card_holds'). Laid BY PROGRAM, IN A SANDBOX (cutbox-door.mjs). By AI agents, Wed Nov 11 2026. No macro, syntax, notation, axiom, sorry.
-/
import Derived.Test.YtjkpjakodomnmaaGreatDoorRows
import GoSem.ClaimSeven
namespace Go.Proofs.YtjkpjakodomnmaaGreatDoor
namespace Rows

/-- THE TIED CARD OF 'bedrocklaw36.LtableKeys'. -/
def ltableKeysCard : Claim7 := { stood := { row := ltableKeysRow, standIns := [], harness := (true, "ffb9aa945ad1ee85baba33c40099f2d5800f4b7592a36855f4f2b1c28ab2e2d1"), looks := false }, kinds := [], alts := [], laidByText := true, laidKinds := [.data], laidTests := true, laidLooks := .later }
def LtableKeysCardSaid : Prop := Claim7.holds Tryz.pinned (.plain (OpenSpec.ofChange ltableKeysSpec)) ltableKeysCard

/-- THE TIED CARD OF 'bedrocklaw36.LtableBegins'. -/
def ltableBeginsCard : Claim7 := { stood := { row := ltableBeginsRow, standIns := [], harness := (true, "ffb9aa945ad1ee85baba33c40099f2d5800f4b7592a36855f4f2b1c28ab2e2d1"), looks := false }, kinds := [], alts := [], laidByText := true, laidKinds := [.data], laidTests := true, laidLooks := .later }
def LtableBeginsCardSaid : Prop := Claim7.holds Tryz.pinned (.plain (OpenSpec.ofChange ltableBeginsSpec)) ltableBeginsCard

/-- THE TIED CARD OF 'bedrocklaw36.LtablePlays'. -/
def ltablePlaysCard : Claim7 := { stood := { row := ltablePlaysRow, standIns := [], harness := (true, "ffb9aa945ad1ee85baba33c40099f2d5800f4b7592a36855f4f2b1c28ab2e2d1"), looks := false }, kinds := [], alts := [], laidByText := true, laidKinds := [.data], laidTests := true, laidLooks := .later }
def LtablePlaysCardSaid : Prop := Claim7.holds Tryz.pinned (.plain (OpenSpec.ofChange ltablePlaysSpec)) ltablePlaysCard

/-- THE TIED CARD OF 'bedrocklaw36.LtableFills'. -/
def ltableFillsCard : Claim7 := { stood := { row := ltableFillsRow, standIns := [], harness := (true, "ffb9aa945ad1ee85baba33c40099f2d5800f4b7592a36855f4f2b1c28ab2e2d1"), looks := false }, kinds := [], alts := [], laidByText := true, laidKinds := [.data], laidTests := true, laidLooks := .later }
def LtableFillsCardSaid : Prop := Claim7.holds Tryz.pinned (.plain (OpenSpec.ofChange ltableFillsSpec)) ltableFillsCard

/-- THE TIED CARD OF 'bedrocklaw36.LtableLinear'. -/
def ltableLinearCard : Claim7 := { stood := { row := ltableLinearRow, standIns := [], harness := (true, "ffb9aa945ad1ee85baba33c40099f2d5800f4b7592a36855f4f2b1c28ab2e2d1"), looks := false }, kinds := [], alts := [], laidByText := true, laidKinds := [.data], laidTests := true, laidLooks := .later }
def LtableLinearCardSaid : Prop := Claim7.holds Tryz.pinned (.plain (OpenSpec.ofChange ltableLinearSpec)) ltableLinearCard

/-- THE TIED CARD OF 'bedrocklaw36.LtableFree'. -/
def ltableFreeCard : Claim7 := { stood := { row := ltableFreeRow, standIns := [], harness := (true, "ffb9aa945ad1ee85baba33c40099f2d5800f4b7592a36855f4f2b1c28ab2e2d1"), looks := false }, kinds := [], alts := [], laidByText := true, laidKinds := [.data], laidTests := true, laidLooks := .later }
def LtableFreeCardSaid : Prop := Claim7.holds Tryz.pinned (.plain (OpenSpec.ofChange ltableFreeSpec)) ltableFreeCard

/-- THE TIED CARD OF 'bedrocklaw36.LtableDurable'. -/
def ltableDurableCard : Claim7 := { stood := { row := ltableDurableRow, standIns := [], harness := (true, "ffb9aa945ad1ee85baba33c40099f2d5800f4b7592a36855f4f2b1c28ab2e2d1"), looks := false }, kinds := [], alts := [], laidByText := true, laidKinds := [.data], laidTests := true, laidLooks := .later }
def LtableDurableCardSaid : Prop := Claim7.holds Tryz.pinned (.plain (OpenSpec.ofChange ltableDurableSpec)) ltableDurableCard

/-- THE SECOND FORM's CARD OF 'bedrocklaw36.LtableKeys'. -/
def ltableKeysUptoCard : Claim7 := { stood := { row := ltableKeysUptoRow, standIns := [], harness := (true, "ffb9aa945ad1ee85baba33c40099f2d5800f4b7592a36855f4f2b1c28ab2e2d1"), looks := false }, kinds := [], alts := [], laidByText := true, laidKinds := [.data], laidTests := true, laidLooks := .later }
def LtableKeysUptoCardSaid : Prop := Claim7.holds Tryz.pinned (.plain (OpenSpec.upto ltableKeysSpec)) ltableKeysUptoCard

/-- THE SECOND FORM's CARD OF 'bedrocklaw36.LtableBegins'. -/
def ltableBeginsUptoCard : Claim7 := { stood := { row := ltableBeginsUptoRow, standIns := [], harness := (true, "ffb9aa945ad1ee85baba33c40099f2d5800f4b7592a36855f4f2b1c28ab2e2d1"), looks := false }, kinds := [], alts := [], laidByText := true, laidKinds := [.data], laidTests := true, laidLooks := .later }
def LtableBeginsUptoCardSaid : Prop := Claim7.holds Tryz.pinned (.plain (OpenSpec.upto ltableBeginsSpec)) ltableBeginsUptoCard

/-- THE SECOND FORM's CARD OF 'bedrocklaw36.LtablePlays'. -/
def ltablePlaysUptoCard : Claim7 := { stood := { row := ltablePlaysUptoRow, standIns := [], harness := (true, "ffb9aa945ad1ee85baba33c40099f2d5800f4b7592a36855f4f2b1c28ab2e2d1"), looks := false }, kinds := [], alts := [], laidByText := true, laidKinds := [.data], laidTests := true, laidLooks := .later }
def LtablePlaysUptoCardSaid : Prop := Claim7.holds Tryz.pinned (.plain (OpenSpec.upto ltablePlaysSpec)) ltablePlaysUptoCard

/-- THE SECOND FORM's CARD OF 'bedrocklaw36.LtableFills'. -/
def ltableFillsUptoCard : Claim7 := { stood := { row := ltableFillsUptoRow, standIns := [], harness := (true, "ffb9aa945ad1ee85baba33c40099f2d5800f4b7592a36855f4f2b1c28ab2e2d1"), looks := false }, kinds := [], alts := [], laidByText := true, laidKinds := [.data], laidTests := true, laidLooks := .later }
def LtableFillsUptoCardSaid : Prop := Claim7.holds Tryz.pinned (.plain (OpenSpec.upto ltableFillsSpec)) ltableFillsUptoCard

/-- THE SECOND FORM's CARD OF 'bedrocklaw36.LtableLinear'. -/
def ltableLinearUptoCard : Claim7 := { stood := { row := ltableLinearUptoRow, standIns := [], harness := (true, "ffb9aa945ad1ee85baba33c40099f2d5800f4b7592a36855f4f2b1c28ab2e2d1"), looks := false }, kinds := [], alts := [], laidByText := true, laidKinds := [.data], laidTests := true, laidLooks := .later }
def LtableLinearUptoCardSaid : Prop := Claim7.holds Tryz.pinned (.plain (OpenSpec.upto ltableLinearSpec)) ltableLinearUptoCard

/-- THE SECOND FORM's CARD OF 'bedrocklaw36.LtableFree'. -/
def ltableFreeUptoCard : Claim7 := { stood := { row := ltableFreeUptoRow, standIns := [], harness := (true, "ffb9aa945ad1ee85baba33c40099f2d5800f4b7592a36855f4f2b1c28ab2e2d1"), looks := false }, kinds := [], alts := [], laidByText := true, laidKinds := [.data], laidTests := true, laidLooks := .later }
def LtableFreeUptoCardSaid : Prop := Claim7.holds Tryz.pinned (.plain (OpenSpec.upto ltableFreeSpec)) ltableFreeUptoCard

/-- THE SECOND FORM's CARD OF 'bedrocklaw36.LtableDurable'. -/
def ltableDurableUptoCard : Claim7 := { stood := { row := ltableDurableUptoRow, standIns := [], harness := (true, "ffb9aa945ad1ee85baba33c40099f2d5800f4b7592a36855f4f2b1c28ab2e2d1"), looks := false }, kinds := [], alts := [], laidByText := true, laidKinds := [.data], laidTests := true, laidLooks := .later }
def LtableDurableUptoCardSaid : Prop := Claim7.holds Tryz.pinned (.plain (OpenSpec.upto ltableDurableSpec)) ltableDurableUptoCard
end Rows
end Go.Proofs.YtjkpjakodomnmaaGreatDoor
