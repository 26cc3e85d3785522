/-
  DERIVED. GIVEN WITH THE SEED: THE CARDS: each row of YtaefkelaffijbaaGreatDoorRows.lean that lists a variable, with what it lists TIED to the program's text (the seventh form; the later family's looks); each row that meets fmt, with fmt's text TOLD by the authors' own Lean function (tested against real Go, not proved from fmt's source: count such statements apart). THE CARD IS WHAT COUNTS. Prove the row's statement (the work); the ties are given (YtaefkelaffijbaaGreatDoorTie.lean); close each card by the builder's one call (the guide's Derived/Test/ToyasCard.lean, 'card_holds'). Laid BY PROGRAM, IN A SANDBOX (cutbox-door.mjs). By AI agents, Wed Nov 11 2026. No macro, syntax, notation, axiom, sorry.
-/
import Derived.Test.YtaefkelaffijbaaGreatDoorRows
import GoSem.ClaimSeven
namespace Go.Proofs.YtaefkelaffijbaaGreatDoor
namespace Rows

/-- THE TIED CARD OF 'bedrocklaw30.QueueCounts'. -/
def queueCountsCard : Claim7 := { stood := { row := queueCountsRow, standIns := [], harness := (true, "701ecddc812e36edbb8a60c1877d6030517a5ccf30f274d8a65674614a720d38"), looks := false }, kinds := [], alts := [], laidByText := true, laidKinds := [.data], laidTests := true, laidLooks := .later }
def QueueCountsCardSaid : Prop := Claim7.holds Tryz.pinned (.plain (OpenSpec.ofChange queueCountsSpec)) queueCountsCard

/-- THE TIED CARD OF 'bedrocklaw30.QueueOrders'. -/
def queueOrdersCard : Claim7 := { stood := { row := queueOrdersRow, standIns := [], harness := (true, "701ecddc812e36edbb8a60c1877d6030517a5ccf30f274d8a65674614a720d38"), looks := false }, kinds := [], alts := [], laidByText := true, laidKinds := [.data], laidTests := true, laidLooks := .later }
def QueueOrdersCardSaid : Prop := Claim7.holds Tryz.pinned (.plain (OpenSpec.ofChange queueOrdersSpec)) queueOrdersCard

/-- THE TIED CARD OF 'bedrocklaw30.QueueBegins'. -/
def queueBeginsCard : Claim7 := { stood := { row := queueBeginsRow, standIns := [], harness := (true, "701ecddc812e36edbb8a60c1877d6030517a5ccf30f274d8a65674614a720d38"), looks := false }, kinds := [], alts := [], laidByText := true, laidKinds := [.data], laidTests := true, laidLooks := .later }
def QueueBeginsCardSaid : Prop := Claim7.holds Tryz.pinned (.plain (OpenSpec.ofChange queueBeginsSpec)) queueBeginsCard

/-- THE TIED CARD OF 'bedrocklaw30.QueuePlays'. -/
def queuePlaysCard : Claim7 := { stood := { row := queuePlaysRow, standIns := [], harness := (true, "701ecddc812e36edbb8a60c1877d6030517a5ccf30f274d8a65674614a720d38"), looks := false }, kinds := [], alts := [], laidByText := true, laidKinds := [.data], laidTests := true, laidLooks := .later }
def QueuePlaysCardSaid : Prop := Claim7.holds Tryz.pinned (.plain (OpenSpec.ofChange queuePlaysSpec)) queuePlaysCard

/-- THE TIED CARD OF 'bedrocklaw30.QueueLinear'. -/
def queueLinearCard : Claim7 := { stood := { row := queueLinearRow, standIns := [], harness := (true, "701ecddc812e36edbb8a60c1877d6030517a5ccf30f274d8a65674614a720d38"), looks := false }, kinds := [], alts := [], laidByText := true, laidKinds := [.data], laidTests := true, laidLooks := .later }
def QueueLinearCardSaid : Prop := Claim7.holds Tryz.pinned (.plain (OpenSpec.ofChange queueLinearSpec)) queueLinearCard

/-- THE TIED CARD OF 'bedrocklaw30.QueueFree'. -/
def queueFreeCard : Claim7 := { stood := { row := queueFreeRow, standIns := [], harness := (true, "701ecddc812e36edbb8a60c1877d6030517a5ccf30f274d8a65674614a720d38"), looks := false }, kinds := [], alts := [], laidByText := true, laidKinds := [.data], laidTests := true, laidLooks := .later }
def QueueFreeCardSaid : Prop := Claim7.holds Tryz.pinned (.plain (OpenSpec.ofChange queueFreeSpec)) queueFreeCard

/-- THE TIED CARD OF 'bedrocklaw30.QueueDurable'. -/
def queueDurableCard : Claim7 := { stood := { row := queueDurableRow, standIns := [], harness := (true, "701ecddc812e36edbb8a60c1877d6030517a5ccf30f274d8a65674614a720d38"), looks := false }, kinds := [], alts := [], laidByText := true, laidKinds := [.data], laidTests := true, laidLooks := .later }
def QueueDurableCardSaid : Prop := Claim7.holds Tryz.pinned (.plain (OpenSpec.ofChange queueDurableSpec)) queueDurableCard

/-- THE SECOND FORM's CARD OF 'bedrocklaw30.QueueCounts'. -/
def queueCountsUptoCard : Claim7 := { stood := { row := queueCountsUptoRow, standIns := [], harness := (true, "701ecddc812e36edbb8a60c1877d6030517a5ccf30f274d8a65674614a720d38"), looks := false }, kinds := [], alts := [], laidByText := true, laidKinds := [.data], laidTests := true, laidLooks := .later }
def QueueCountsUptoCardSaid : Prop := Claim7.holds Tryz.pinned (.plain (OpenSpec.upto queueCountsSpec)) queueCountsUptoCard

/-- THE SECOND FORM's CARD OF 'bedrocklaw30.QueueOrders'. -/
def queueOrdersUptoCard : Claim7 := { stood := { row := queueOrdersUptoRow, standIns := [], harness := (true, "701ecddc812e36edbb8a60c1877d6030517a5ccf30f274d8a65674614a720d38"), looks := false }, kinds := [], alts := [], laidByText := true, laidKinds := [.data], laidTests := true, laidLooks := .later }
def QueueOrdersUptoCardSaid : Prop := Claim7.holds Tryz.pinned (.plain (OpenSpec.upto queueOrdersSpec)) queueOrdersUptoCard

/-- THE SECOND FORM's CARD OF 'bedrocklaw30.QueueBegins'. -/
def queueBeginsUptoCard : Claim7 := { stood := { row := queueBeginsUptoRow, standIns := [], harness := (true, "701ecddc812e36edbb8a60c1877d6030517a5ccf30f274d8a65674614a720d38"), looks := false }, kinds := [], alts := [], laidByText := true, laidKinds := [.data], laidTests := true, laidLooks := .later }
def QueueBeginsUptoCardSaid : Prop := Claim7.holds Tryz.pinned (.plain (OpenSpec.upto queueBeginsSpec)) queueBeginsUptoCard

/-- THE SECOND FORM's CARD OF 'bedrocklaw30.QueuePlays'. -/
def queuePlaysUptoCard : Claim7 := { stood := { row := queuePlaysUptoRow, standIns := [], harness := (true, "701ecddc812e36edbb8a60c1877d6030517a5ccf30f274d8a65674614a720d38"), looks := false }, kinds := [], alts := [], laidByText := true, laidKinds := [.data], laidTests := true, laidLooks := .later }
def QueuePlaysUptoCardSaid : Prop := Claim7.holds Tryz.pinned (.plain (OpenSpec.upto queuePlaysSpec)) queuePlaysUptoCard

/-- THE SECOND FORM's CARD OF 'bedrocklaw30.QueueLinear'. -/
def queueLinearUptoCard : Claim7 := { stood := { row := queueLinearUptoRow, standIns := [], harness := (true, "701ecddc812e36edbb8a60c1877d6030517a5ccf30f274d8a65674614a720d38"), looks := false }, kinds := [], alts := [], laidByText := true, laidKinds := [.data], laidTests := true, laidLooks := .later }
def QueueLinearUptoCardSaid : Prop := Claim7.holds Tryz.pinned (.plain (OpenSpec.upto queueLinearSpec)) queueLinearUptoCard

/-- THE SECOND FORM's CARD OF 'bedrocklaw30.QueueFree'. -/
def queueFreeUptoCard : Claim7 := { stood := { row := queueFreeUptoRow, standIns := [], harness := (true, "701ecddc812e36edbb8a60c1877d6030517a5ccf30f274d8a65674614a720d38"), looks := false }, kinds := [], alts := [], laidByText := true, laidKinds := [.data], laidTests := true, laidLooks := .later }
def QueueFreeUptoCardSaid : Prop := Claim7.holds Tryz.pinned (.plain (OpenSpec.upto queueFreeSpec)) queueFreeUptoCard

/-- THE SECOND FORM's CARD OF 'bedrocklaw30.QueueDurable'. -/
def queueDurableUptoCard : Claim7 := { stood := { row := queueDurableUptoRow, standIns := [], harness := (true, "701ecddc812e36edbb8a60c1877d6030517a5ccf30f274d8a65674614a720d38"), looks := false }, kinds := [], alts := [], laidByText := true, laidKinds := [.data], laidTests := true, laidLooks := .later }
def QueueDurableUptoCardSaid : Prop := Claim7.holds Tryz.pinned (.plain (OpenSpec.upto queueDurableSpec)) queueDurableUptoCard
end Rows
end Go.Proofs.YtaefkelaffijbaaGreatDoor
