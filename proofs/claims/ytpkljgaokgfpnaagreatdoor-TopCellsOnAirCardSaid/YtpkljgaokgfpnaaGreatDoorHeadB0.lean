/- TopCellsOnAir: the check that the law begins with: frame 0 of 3. -/
import Derived.Test.YtpkljgaokgfpnaaGreatDoorHeadA
set_option maxRecDepth 1000000
set_option linter.unusedVariables false
set_option linter.unusedSimpArgs false
set_option linter.unusedSectionVars false
namespace Go.Am.Cells
open Go Go.Am
theorem run0 : okRun 3050 q0 (evF C O1 100000 14 a0 (mkH 24 s0)) = true := by kernel_rfl
end Go.Am.Cells
