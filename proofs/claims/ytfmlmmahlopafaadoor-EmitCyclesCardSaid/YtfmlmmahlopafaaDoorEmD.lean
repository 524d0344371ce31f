/- The runs for more equations. -/
import Derived.Test.YtfmlmmahlopafaaDoorEmC
set_option linter.unusedVariables false
set_option linter.unusedSimpArgs false
set_option linter.unusedSectionVars false
namespace Go.Proofs
open Go.Mt
set_option maxRecDepth 4000
theorem ec3 : ecRun 3 = true := by kernel_rfl
theorem ec4 : ecRun 4 = true := by kernel_rfl
theorem ec5 : ecRun 5 = true := by kernel_rfl
theorem ec6 : ecRun 6 = true := by kernel_rfl
theorem ec7 : ecRun 7 = true := by kernel_rfl
theorem ec8 : ecRun 8 = true := by kernel_rfl
end Go.Proofs
