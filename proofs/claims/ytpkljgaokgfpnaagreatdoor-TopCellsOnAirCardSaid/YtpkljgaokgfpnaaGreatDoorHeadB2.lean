/- TopCellsOnAir: the check that the law begins with: frame 2 of 3. -/
import Derived.Test.YtpkljgaokgfpnaaGreatDoorHeadA
set_option maxRecDepth 1000000
set_option linter.unusedVariables false
set_option linter.unusedSimpArgs false
set_option linter.unusedSectionVars false
namespace Go.Am.Cells
open Go Go.Am
theorem run2 : okRun 13156 q2 (evF C O1 100000 14 a2 (mkH 7415 s2)) = true := by kernel_rfl
end Go.Am.Cells
