/- The runs for more equations. -/
import Derived.Test.YtfmlmmahlopafaaDoorEmC
set_option linter.unusedVariables false
set_option linter.unusedSimpArgs false
set_option linter.unusedSectionVars false
namespace Go.Proofs
open Go.Mt
set_option maxRecDepth 4000
theorem ec14 : ecRun 14 = true := by kernel_rfl
theorem ec15 : ecRun 15 = true := by kernel_rfl
theorem ec16 : ecRun 16 = true := by kernel_rfl
theorem ec17 : ecRun 17 = true := by kernel_rfl
end Go.Proofs
