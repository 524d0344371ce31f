/- The runs for few equations. -/
import Derived.Test.YtfmlmmahlopafaaDoorEmB
set_option linter.unusedVariables false
set_option linter.unusedSimpArgs false
set_option linter.unusedSectionVars false
namespace Go.Proofs
open Go.Mt
set_option maxRecDepth 4000
noncomputable def ecRun (k : Nat) : Bool := saysTrue Tryd.prog Tryd.f3 (runRest Tryd.prog ecCfg 97 1000 ecRest ⟨[(3, .m (.d (.int .i64 (k : Int))))], [], []⟩)
theorem ec1 : ecRun 1 = true := by kernel_rfl
theorem ec2 : ecRun 2 = true := by kernel_rfl
end Go.Proofs
