/- The table that the rows list, in its variable. -/
import Derived.Test.YtbhkdngbgokilaaDoorRows
import Derived.Test.YtbhkdngbgokilaaDoorTie
import Derived.Test.YtbhkdngbgokilaaDoorBmK
import Derived.Lib.LaidTab
import Derived.LaidMore
namespace Go.Proofs.YtbhkdngbgokilaaDoor
open Go.RowKit
set_option linter.unusedVariables false

theorem gTab : Tryd.prog.globalNamed "math/bits.deBruijn64tab" = some 0 := by kernel_rfl
theorem gTabT : (Tryd.prog.globals[0]?).map (·.type) = some 107 := by kernel_rfl
theorem tab_of_laid {W : World} (h : laidMetH Tryd.prog [("math/bits.deBruijn64tab", Rows.laid_math_bits_deBruijn64tab)] W) : Tab W := by
  rw [MakeChecks.laidMetH_plain _ _ _ (by kernel_rfl)] at h
  have h2 : laidMet Tryd.prog [("math/bits.deBruijn64tab", Lib.tabData .u8 (Lib.deBruijn64tab.map fun (n : Nat) => (n : Int)))] W := h
  have h3 := Lib.tabIs_of_head gTab gTabT Tryd.underlying107 Tryd.underlying5 (by kernel_rfl) (by kernel_rfl) h2
  have hc : ∀ j, j < Lib.deBruijn64tab.length → W.cell? ⟨0, j, none⟩ = some (.int .u8 (Lib.deBruijn64tab.getD j 0 : Nat)) := by
    intro j hj
    have := h3.cell gTab j (by simpa using hj)
    rw [this]
    congr 2
    simp [List.getD, hj]
  exact ⟨World.block_lt_of_cell? W _ (hc 0 (by decide)), hc⟩
end Go.Proofs.YtbhkdngbgokilaaDoor
