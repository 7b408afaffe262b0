/- TopCellsOnAir: the check that the law begins with: frame 1 of 3. -/
import Derived.Test.YtpkljgaokgfpnaaGreatDoorHeadA
set_option maxRecDepth 1000000
set_option linter.unusedVariables false
set_option linter.unusedSimpArgs false
set_option linter.unusedSectionVars false
namespace Go.Am.Cells
open Go Go.Am
theorem run1 : okRun 7408 q1 (evF C O1 100000 14 a1 (mkH 3057 s1)) = true := by kernel_rfl
end Go.Am.Cells
