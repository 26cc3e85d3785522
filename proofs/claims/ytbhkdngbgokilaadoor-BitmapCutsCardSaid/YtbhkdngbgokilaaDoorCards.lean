/-
  DERIVED. GIVEN WITH THE SEED: THE CARDS: each row of YtbhkdngbgokilaaDoorRows.lean that lists a variable, with what it lists TIED to the program's text (the seventh form; the later family's looks); each row that meets fmt, with fmt's text TOLD by the authors' own Lean function (tested against real Go, not proved from fmt's source: count such statements apart). THE CARD IS WHAT COUNTS. Prove the row's statement (the work); the ties are given (YtbhkdngbgokilaaDoorTie.lean); close each card by the builder's one call (the guide's Derived/Test/ToyasCard.lean, 'card_holds'). Laid BY PROGRAM, IN A SANDBOX (cutbox-door.mjs). By AI agents, Wed Nov 11 2026. No macro, syntax, notation, axiom, sorry.
-/
import Derived.Test.YtbhkdngbgokilaaDoorRows
import GoSem.ClaimSeven
namespace Go.Proofs.YtbhkdngbgokilaaDoor
namespace Rows

/-- THE TIED CARD OF 'bedrocklaw20.BitmapChanges'. -/
def bitmapChangesCard : Claim7 := { stood := { row := bitmapChangesRow, standIns := [], harness := (true, "1052e0febd2943b3f65b4af2d5b9c114fa7e2de90a2c45b892a5229532621c1e"), looks := false }, kinds := [], alts := [], laidByText := true, laidKinds := [.data], laidTests := true, laidLooks := .later }
def BitmapChangesCardSaid : Prop := Claim7.holds Tryd.pinned (.plain (OpenSpec.ofChange bitmapChangesSpec)) bitmapChangesCard

/-- THE TIED CARD OF 'bedrocklaw20.BitmapOpens'. -/
def bitmapOpensCard : Claim7 := { stood := { row := bitmapOpensRow, standIns := [], harness := (true, "1052e0febd2943b3f65b4af2d5b9c114fa7e2de90a2c45b892a5229532621c1e"), looks := false }, kinds := [], alts := [], laidByText := true, laidKinds := [.data], laidTests := true, laidLooks := .later }
def BitmapOpensCardSaid : Prop := Claim7.holds Tryd.pinned (.plain (OpenSpec.ofChange bitmapOpensSpec)) bitmapOpensCard

/-- THE TIED CARD OF 'bedrocklaw20.BitmapReads'. -/
def bitmapReadsCard : Claim7 := { stood := { row := bitmapReadsRow, standIns := [], harness := (true, "1052e0febd2943b3f65b4af2d5b9c114fa7e2de90a2c45b892a5229532621c1e"), looks := false }, kinds := [], alts := [], laidByText := true, laidKinds := [.data], laidTests := true, laidLooks := .later }
def BitmapReadsCardSaid : Prop := Claim7.holds Tryd.pinned (.plain (OpenSpec.ofChange bitmapReadsSpec)) bitmapReadsCard

/-- THE TIED CARD OF 'bedrocklaw20.BitmapBack'. -/
def bitmapBackCard : Claim7 := { stood := { row := bitmapBackRow, standIns := [], harness := (true, "1052e0febd2943b3f65b4af2d5b9c114fa7e2de90a2c45b892a5229532621c1e"), looks := false }, kinds := [], alts := [], laidByText := true, laidKinds := [.data], laidTests := true, laidLooks := .later }
def BitmapBackCardSaid : Prop := Claim7.holds Tryd.pinned (.plain (OpenSpec.ofChange bitmapBackSpec)) bitmapBackCard

/-- THE TIED CARD OF 'bedrocklaw20.BitmapRuns'. -/
def bitmapRunsCard : Claim7 := { stood := { row := bitmapRunsRow, standIns := [], harness := (true, "1052e0febd2943b3f65b4af2d5b9c114fa7e2de90a2c45b892a5229532621c1e"), looks := false }, kinds := [], alts := [], laidByText := true, laidKinds := [.data], laidTests := true, laidLooks := .later }
def BitmapRunsCardSaid : Prop := Claim7.holds Tryd.pinned (.plain (OpenSpec.ofChange bitmapRunsSpec)) bitmapRunsCard

/-- THE TIED CARD OF 'bedrocklaw20.BitmapZero'. -/
def bitmapZeroCard : Claim7 := { stood := { row := bitmapZeroRow, standIns := [], harness := (true, "1052e0febd2943b3f65b4af2d5b9c114fa7e2de90a2c45b892a5229532621c1e"), looks := false }, kinds := [], alts := [], laidByText := true, laidKinds := [.data], laidTests := true, laidLooks := .later }
def BitmapZeroCardSaid : Prop := Claim7.holds Tryd.pinned (.plain (OpenSpec.ofChange bitmapZeroSpec)) bitmapZeroCard

/-- THE TIED CARD OF 'bedrocklaw20.BitmapCuts'. -/
def bitmapCutsCard : Claim7 := { stood := { row := bitmapCutsRow, standIns := [], harness := (true, "1052e0febd2943b3f65b4af2d5b9c114fa7e2de90a2c45b892a5229532621c1e"), looks := false }, kinds := [], alts := [], laidByText := true, laidKinds := [.data], laidTests := true, laidLooks := .later }
def BitmapCutsCardSaid : Prop := Claim7.holds Tryd.pinned (.plain (OpenSpec.ofChange bitmapCutsSpec)) bitmapCutsCard

/-- THE SECOND FORM's CARD OF 'bedrocklaw20.BitmapChanges'. -/
def bitmapChangesUptoCard : Claim7 := { stood := { row := bitmapChangesUptoRow, standIns := [], harness := (true, "1052e0febd2943b3f65b4af2d5b9c114fa7e2de90a2c45b892a5229532621c1e"), looks := false }, kinds := [], alts := [], laidByText := true, laidKinds := [.data], laidTests := true, laidLooks := .later }
def BitmapChangesUptoCardSaid : Prop := Claim7.holds Tryd.pinned (.plain (OpenSpec.upto bitmapChangesSpec)) bitmapChangesUptoCard

/-- THE SECOND FORM's CARD OF 'bedrocklaw20.BitmapOpens'. -/
def bitmapOpensUptoCard : Claim7 := { stood := { row := bitmapOpensUptoRow, standIns := [], harness := (true, "1052e0febd2943b3f65b4af2d5b9c114fa7e2de90a2c45b892a5229532621c1e"), looks := false }, kinds := [], alts := [], laidByText := true, laidKinds := [.data], laidTests := true, laidLooks := .later }
def BitmapOpensUptoCardSaid : Prop := Claim7.holds Tryd.pinned (.plain (OpenSpec.upto bitmapOpensSpec)) bitmapOpensUptoCard

/-- THE SECOND FORM's CARD OF 'bedrocklaw20.BitmapReads'. -/
def bitmapReadsUptoCard : Claim7 := { stood := { row := bitmapReadsUptoRow, standIns := [], harness := (true, "1052e0febd2943b3f65b4af2d5b9c114fa7e2de90a2c45b892a5229532621c1e"), looks := false }, kinds := [], alts := [], laidByText := true, laidKinds := [.data], laidTests := true, laidLooks := .later }
def BitmapReadsUptoCardSaid : Prop := Claim7.holds Tryd.pinned (.plain (OpenSpec.upto bitmapReadsSpec)) bitmapReadsUptoCard

/-- THE SECOND FORM's CARD OF 'bedrocklaw20.BitmapBack'. -/
def bitmapBackUptoCard : Claim7 := { stood := { row := bitmapBackUptoRow, standIns := [], harness := (true, "1052e0febd2943b3f65b4af2d5b9c114fa7e2de90a2c45b892a5229532621c1e"), looks := false }, kinds := [], alts := [], laidByText := true, laidKinds := [.data], laidTests := true, laidLooks := .later }
def BitmapBackUptoCardSaid : Prop := Claim7.holds Tryd.pinned (.plain (OpenSpec.upto bitmapBackSpec)) bitmapBackUptoCard

/-- THE SECOND FORM's CARD OF 'bedrocklaw20.BitmapRuns'. -/
def bitmapRunsUptoCard : Claim7 := { stood := { row := bitmapRunsUptoRow, standIns := [], harness := (true, "1052e0febd2943b3f65b4af2d5b9c114fa7e2de90a2c45b892a5229532621c1e"), looks := false }, kinds := [], alts := [], laidByText := true, laidKinds := [.data], laidTests := true, laidLooks := .later }
def BitmapRunsUptoCardSaid : Prop := Claim7.holds Tryd.pinned (.plain (OpenSpec.upto bitmapRunsSpec)) bitmapRunsUptoCard

/-- THE SECOND FORM's CARD OF 'bedrocklaw20.BitmapZero'. -/
def bitmapZeroUptoCard : Claim7 := { stood := { row := bitmapZeroUptoRow, standIns := [], harness := (true, "1052e0febd2943b3f65b4af2d5b9c114fa7e2de90a2c45b892a5229532621c1e"), looks := false }, kinds := [], alts := [], laidByText := true, laidKinds := [.data], laidTests := true, laidLooks := .later }
def BitmapZeroUptoCardSaid : Prop := Claim7.holds Tryd.pinned (.plain (OpenSpec.upto bitmapZeroSpec)) bitmapZeroUptoCard

/-- THE SECOND FORM's CARD OF 'bedrocklaw20.BitmapCuts'. -/
def bitmapCutsUptoCard : Claim7 := { stood := { row := bitmapCutsUptoRow, standIns := [], harness := (true, "1052e0febd2943b3f65b4af2d5b9c114fa7e2de90a2c45b892a5229532621c1e"), looks := false }, kinds := [], alts := [], laidByText := true, laidKinds := [.data], laidTests := true, laidLooks := .later }
def BitmapCutsUptoCardSaid : Prop := Claim7.holds Tryd.pinned (.plain (OpenSpec.upto bitmapCutsSpec)) bitmapCutsUptoCard
end Rows
end Go.Proofs.YtbhkdngbgokilaaDoor
