/- The runs for more equations. -/
import Derived.Test.YtfmlmmahlopafaaDoorEmC
set_option linter.unusedVariables false
set_option linter.unusedSimpArgs false
set_option linter.unusedSectionVars false
namespace Go.Proofs
open Go.Mt
set_option maxRecDepth 4000
theorem ec18 : ecRun 18 = true := by kernel_rfl
theorem ec19 : ecRun 19 = true := by kernel_rfl
theorem ec20 : ecRun 20 = true := by kernel_rfl
end Go.Proofs
