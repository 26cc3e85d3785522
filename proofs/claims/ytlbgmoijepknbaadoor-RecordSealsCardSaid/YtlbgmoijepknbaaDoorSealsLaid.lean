/- The table that the row lists, in its variable. -/
import Derived.Test.YtlbgmoijepknbaaDoorRows
import Derived.Test.YtlbgmoijepknbaaDoorTie
import Derived.Test.YtlbgmoijepknbaaDoorCrcC
import Derived.Lib.LaidTab
import Derived.LaidMore
namespace Go.Proofs.YtlbgmoijepknbaaDoor
open Go.RowKit
set_option linter.unusedVariables false

theorem gTab : Tryd.prog.globalNamed "bedrock/crc.nibbles" = some 0 := by kernel_rfl
theorem gTabT : (Tryd.prog.globals[0]?).map (·.type) = some 81 := by kernel_rfl
theorem tab_of_laid {W : World} (h : laidMetH Tryd.prog [("bedrock/crc.nibbles", Rows.laid_bedrock_crc_nibbles)] W) : Tab W := by
  rw [MakeChecks.laidMetH_plain _ _ _ (by kernel_rfl)] at h
  have h2 : laidMet Tryd.prog [("bedrock/crc.nibbles", Lib.tabData .u32 (nibT.map fun (n : Nat) => (n : Int)))] W := h
  have h3 := Lib.tabIs_of_head gTab gTabT Tryd.underlying81 Tryd.underlying23 (by kernel_rfl) (by kernel_rfl) h2
  have hc : ∀ j, j < 16 → W.cell? ⟨0, j, none⟩ = some (.int .u32 (nibT.getD j 0 : Nat)) := by
    intro j hj
    have := h3.cell gTab j (by simpa [nibT] using hj)
    rw [this]
    congr 2
    have hj' : j < nibT.length := hj
    simp [List.getD, hj']
  exact ⟨World.block_lt_of_cell? W _ (hc 0 (by decide)), hc⟩
end Go.Proofs.YtlbgmoijepknbaaDoor
