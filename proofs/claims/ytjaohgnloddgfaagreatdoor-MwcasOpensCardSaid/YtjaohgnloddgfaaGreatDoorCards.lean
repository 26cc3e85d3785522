/-
  DERIVED. GIVEN WITH THE SEED: THE CARDS: each row of YtjaohgnloddgfaaGreatDoorRows.lean that lists a variable, with what it lists TIED to the program's text (the seventh form; the later family's looks); each row that meets fmt, with fmt's text TOLD by the authors' own Lean function (tested against real Go, not proved from fmt's source: count such statements apart). THE CARD IS WHAT COUNTS. Prove the row's statement (the work); the ties are given (YtjaohgnloddgfaaGreatDoorTie.lean); close each card by the builder's one call (the guide's Derived/Test/ToyasCard.lean, 'card_holds'). Laid BY PROGRAM, IN A SANDBOX (cutbox-door.mjs). By AI agents, Wed Nov 11 2026. No macro, syntax, notation, axiom, sorry.
-/
import Derived.Test.YtjaohgnloddgfaaGreatDoorRows
import GoSem.ClaimSeven
namespace Go.Proofs.YtjaohgnloddgfaaGreatDoor
namespace Rows

/-- THE TIED CARD OF 'bedrocklaw17.MwcasBegins'. -/
def mwcasBeginsCard : Claim7 := { stood := { row := mwcasBeginsRow, standIns := [], harness := (true, "01d2827d4b74e0e763ab80ff3ac6314fdc88cafc9b90f84b2722307fbbe64be2"), looks := false }, kinds := [], alts := [], laidByText := true, laidKinds := [.data], laidTests := true, laidLooks := .later }
def MwcasBeginsCardSaid : Prop := Claim7.holds Tryz.pinned (.plain (OpenSpec.ofChange mwcasBeginsSpec)) mwcasBeginsCard

/-- THE TIED CARD OF 'bedrocklaw17.MwcasCounts'. -/
def mwcasCountsCard : Claim7 := { stood := { row := mwcasCountsRow, standIns := [], harness := (true, "01d2827d4b74e0e763ab80ff3ac6314fdc88cafc9b90f84b2722307fbbe64be2"), looks := false }, kinds := [], alts := [], laidByText := true, laidKinds := [.data], laidTests := true, laidLooks := .later }
def MwcasCountsCardSaid : Prop := Claim7.holds Tryz.pinned (.plain (OpenSpec.ofChange mwcasCountsSpec)) mwcasCountsCard

/-- THE TIED CARD OF 'bedrocklaw17.MwcasFree'. -/
def mwcasFreeCard : Claim7 := { stood := { row := mwcasFreeRow, standIns := [], harness := (true, "01d2827d4b74e0e763ab80ff3ac6314fdc88cafc9b90f84b2722307fbbe64be2"), looks := false }, kinds := [], alts := [], laidByText := true, laidKinds := [.data], laidTests := true, laidLooks := .later }
def MwcasFreeCardSaid : Prop := Claim7.holds Tryz.pinned (.plain (OpenSpec.ofChange mwcasFreeSpec)) mwcasFreeCard

/-- THE TIED CARD OF 'bedrocklaw17.MwcasExact'. -/
def mwcasExactCard : Claim7 := { stood := { row := mwcasExactRow, standIns := [], harness := (true, "01d2827d4b74e0e763ab80ff3ac6314fdc88cafc9b90f84b2722307fbbe64be2"), looks := false }, kinds := [], alts := [], laidByText := true, laidKinds := [.data], laidTests := true, laidLooks := .later }
def MwcasExactCardSaid : Prop := Claim7.holds Tryz.pinned (.plain (OpenSpec.ofChange mwcasExactSpec)) mwcasExactCard

/-- THE TIED CARD OF 'bedrocklaw17.MwcasLinear'. -/
def mwcasLinearCard : Claim7 := { stood := { row := mwcasLinearRow, standIns := [], harness := (true, "01d2827d4b74e0e763ab80ff3ac6314fdc88cafc9b90f84b2722307fbbe64be2"), looks := false }, kinds := [], alts := [], laidByText := true, laidKinds := [.data], laidTests := true, laidLooks := .later }
def MwcasLinearCardSaid : Prop := Claim7.holds Tryz.pinned (.plain (OpenSpec.ofChange mwcasLinearSpec)) mwcasLinearCard

/-- THE TIED CARD OF 'bedrocklaw17.MwcasSolo'. -/
def mwcasSoloCard : Claim7 := { stood := { row := mwcasSoloRow, standIns := [], harness := (true, "01d2827d4b74e0e763ab80ff3ac6314fdc88cafc9b90f84b2722307fbbe64be2"), looks := false }, kinds := [], alts := [], laidByText := true, laidKinds := [.data], laidTests := true, laidLooks := .later }
def MwcasSoloCardSaid : Prop := Claim7.holds Tryz.pinned (.plain (OpenSpec.ofChange mwcasSoloSpec)) mwcasSoloCard

/-- THE TIED CARD OF 'bedrocklaw17.MwcasOpens'. -/
def mwcasOpensCard : Claim7 := { stood := { row := mwcasOpensRow, standIns := [], harness := (true, "01d2827d4b74e0e763ab80ff3ac6314fdc88cafc9b90f84b2722307fbbe64be2"), looks := false }, kinds := [], alts := [], laidByText := true, laidKinds := [.data], laidTests := true, laidLooks := .later }
def MwcasOpensCardSaid : Prop := Claim7.holds Tryz.pinned (.plain (OpenSpec.ofChange mwcasOpensSpec)) mwcasOpensCard

/-- THE TIED CARD OF 'bedrocklaw17.MwcasKeeps'. -/
def mwcasKeepsCard : Claim7 := { stood := { row := mwcasKeepsRow, standIns := [], harness := (true, "01d2827d4b74e0e763ab80ff3ac6314fdc88cafc9b90f84b2722307fbbe64be2"), looks := false }, kinds := [], alts := [], laidByText := true, laidKinds := [.data], laidTests := true, laidLooks := .later }
def MwcasKeepsCardSaid : Prop := Claim7.holds Tryz.pinned (.plain (OpenSpec.ofChange mwcasKeepsSpec)) mwcasKeepsCard

/-- THE TIED CARD OF 'bedrocklaw17.MwcasCrash'. -/
def mwcasCrashCard : Claim7 := { stood := { row := mwcasCrashRow, standIns := [], harness := (true, "01d2827d4b74e0e763ab80ff3ac6314fdc88cafc9b90f84b2722307fbbe64be2"), looks := false }, kinds := [], alts := [], laidByText := true, laidKinds := [.data], laidTests := true, laidLooks := .later }
def MwcasCrashCardSaid : Prop := Claim7.holds Tryz.pinned (.plain (OpenSpec.ofChange mwcasCrashSpec)) mwcasCrashCard

/-- THE TIED CARD OF 'bedrocklaw17.MwcasLooks'. -/
def mwcasLooksCard : Claim7 := { stood := { row := mwcasLooksRow, standIns := [], harness := (true, "01d2827d4b74e0e763ab80ff3ac6314fdc88cafc9b90f84b2722307fbbe64be2"), looks := false }, kinds := [], alts := [], laidByText := true, laidKinds := [.data], laidTests := true, laidLooks := .later }
def MwcasLooksCardSaid : Prop := Claim7.holds Tryz.pinned (.plain (OpenSpec.ofChange mwcasLooksSpec)) mwcasLooksCard

/-- THE SECOND FORM's CARD OF 'bedrocklaw17.MwcasBegins'. -/
def mwcasBeginsUptoCard : Claim7 := { stood := { row := mwcasBeginsUptoRow, standIns := [], harness := (true, "01d2827d4b74e0e763ab80ff3ac6314fdc88cafc9b90f84b2722307fbbe64be2"), looks := false }, kinds := [], alts := [], laidByText := true, laidKinds := [.data], laidTests := true, laidLooks := .later }
def MwcasBeginsUptoCardSaid : Prop := Claim7.holds Tryz.pinned (.plain (OpenSpec.upto mwcasBeginsSpec)) mwcasBeginsUptoCard

/-- THE SECOND FORM's CARD OF 'bedrocklaw17.MwcasCounts'. -/
def mwcasCountsUptoCard : Claim7 := { stood := { row := mwcasCountsUptoRow, standIns := [], harness := (true, "01d2827d4b74e0e763ab80ff3ac6314fdc88cafc9b90f84b2722307fbbe64be2"), looks := false }, kinds := [], alts := [], laidByText := true, laidKinds := [.data], laidTests := true, laidLooks := .later }
def MwcasCountsUptoCardSaid : Prop := Claim7.holds Tryz.pinned (.plain (OpenSpec.upto mwcasCountsSpec)) mwcasCountsUptoCard

/-- THE SECOND FORM's CARD OF 'bedrocklaw17.MwcasFree'. -/
def mwcasFreeUptoCard : Claim7 := { stood := { row := mwcasFreeUptoRow, standIns := [], harness := (true, "01d2827d4b74e0e763ab80ff3ac6314fdc88cafc9b90f84b2722307fbbe64be2"), looks := false }, kinds := [], alts := [], laidByText := true, laidKinds := [.data], laidTests := true, laidLooks := .later }
def MwcasFreeUptoCardSaid : Prop := Claim7.holds Tryz.pinned (.plain (OpenSpec.upto mwcasFreeSpec)) mwcasFreeUptoCard

/-- THE SECOND FORM's CARD OF 'bedrocklaw17.MwcasExact'. -/
def mwcasExactUptoCard : Claim7 := { stood := { row := mwcasExactUptoRow, standIns := [], harness := (true, "01d2827d4b74e0e763ab80ff3ac6314fdc88cafc9b90f84b2722307fbbe64be2"), looks := false }, kinds := [], alts := [], laidByText := true, laidKinds := [.data], laidTests := true, laidLooks := .later }
def MwcasExactUptoCardSaid : Prop := Claim7.holds Tryz.pinned (.plain (OpenSpec.upto mwcasExactSpec)) mwcasExactUptoCard

/-- THE SECOND FORM's CARD OF 'bedrocklaw17.MwcasLinear'. -/
def mwcasLinearUptoCard : Claim7 := { stood := { row := mwcasLinearUptoRow, standIns := [], harness := (true, "01d2827d4b74e0e763ab80ff3ac6314fdc88cafc9b90f84b2722307fbbe64be2"), looks := false }, kinds := [], alts := [], laidByText := true, laidKinds := [.data], laidTests := true, laidLooks := .later }
def MwcasLinearUptoCardSaid : Prop := Claim7.holds Tryz.pinned (.plain (OpenSpec.upto mwcasLinearSpec)) mwcasLinearUptoCard

/-- THE SECOND FORM's CARD OF 'bedrocklaw17.MwcasSolo'. -/
def mwcasSoloUptoCard : Claim7 := { stood := { row := mwcasSoloUptoRow, standIns := [], harness := (true, "01d2827d4b74e0e763ab80ff3ac6314fdc88cafc9b90f84b2722307fbbe64be2"), looks := false }, kinds := [], alts := [], laidByText := true, laidKinds := [.data], laidTests := true, laidLooks := .later }
def MwcasSoloUptoCardSaid : Prop := Claim7.holds Tryz.pinned (.plain (OpenSpec.upto mwcasSoloSpec)) mwcasSoloUptoCard

/-- THE SECOND FORM's CARD OF 'bedrocklaw17.MwcasOpens'. -/
def mwcasOpensUptoCard : Claim7 := { stood := { row := mwcasOpensUptoRow, standIns := [], harness := (true, "01d2827d4b74e0e763ab80ff3ac6314fdc88cafc9b90f84b2722307fbbe64be2"), looks := false }, kinds := [], alts := [], laidByText := true, laidKinds := [.data], laidTests := true, laidLooks := .later }
def MwcasOpensUptoCardSaid : Prop := Claim7.holds Tryz.pinned (.plain (OpenSpec.upto mwcasOpensSpec)) mwcasOpensUptoCard

/-- THE SECOND FORM's CARD OF 'bedrocklaw17.MwcasKeeps'. -/
def mwcasKeepsUptoCard : Claim7 := { stood := { row := mwcasKeepsUptoRow, standIns := [], harness := (true, "01d2827d4b74e0e763ab80ff3ac6314fdc88cafc9b90f84b2722307fbbe64be2"), looks := false }, kinds := [], alts := [], laidByText := true, laidKinds := [.data], laidTests := true, laidLooks := .later }
def MwcasKeepsUptoCardSaid : Prop := Claim7.holds Tryz.pinned (.plain (OpenSpec.upto mwcasKeepsSpec)) mwcasKeepsUptoCard

/-- THE SECOND FORM's CARD OF 'bedrocklaw17.MwcasCrash'. -/
def mwcasCrashUptoCard : Claim7 := { stood := { row := mwcasCrashUptoRow, standIns := [], harness := (true, "01d2827d4b74e0e763ab80ff3ac6314fdc88cafc9b90f84b2722307fbbe64be2"), looks := false }, kinds := [], alts := [], laidByText := true, laidKinds := [.data], laidTests := true, laidLooks := .later }
def MwcasCrashUptoCardSaid : Prop := Claim7.holds Tryz.pinned (.plain (OpenSpec.upto mwcasCrashSpec)) mwcasCrashUptoCard

/-- THE SECOND FORM's CARD OF 'bedrocklaw17.MwcasLooks'. -/
def mwcasLooksUptoCard : Claim7 := { stood := { row := mwcasLooksUptoRow, standIns := [], harness := (true, "01d2827d4b74e0e763ab80ff3ac6314fdc88cafc9b90f84b2722307fbbe64be2"), looks := false }, kinds := [], alts := [], laidByText := true, laidKinds := [.data], laidTests := true, laidLooks := .later }
def MwcasLooksUptoCardSaid : Prop := Claim7.holds Tryz.pinned (.plain (OpenSpec.upto mwcasLooksSpec)) mwcasLooksUptoCard
end Rows
end Go.Proofs.YtjaohgnloddgfaaGreatDoor
