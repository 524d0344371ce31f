/- The runs for more equations. -/
import Derived.Test.YtfmlmmahlopafaaDoorEmC
set_option linter.unusedVariables false
set_option linter.unusedSimpArgs false
set_option linter.unusedSectionVars false
namespace Go.Proofs
open Go.Mt
set_option maxRecDepth 4000
theorem ec9 : ecRun 9 = true := by kernel_rfl
theorem ec10 : ecRun 10 = true := by kernel_rfl
theorem ec11 : ecRun 11 = true := by kernel_rfl
theorem ec12 : ecRun 12 = true := by kernel_rfl
theorem ec13 : ecRun 13 = true := by kernel_rfl
end Go.Proofs
