/- The example of layer 21 runs. -/
import Derived.Test.YtfmlmmahlopafaaDoorProg
import Derived.Test.YtfmlmmahlopafaaDoorLibI
import Derived.KernelRfl
set_option linter.unusedVariables false
set_option linter.unusedSimpArgs false
set_option linter.unusedSectionVars false
namespace Go.Proofs
open Go.Mt
set_option maxRecDepth 4000
set_option linter.unusedVariables false

def emHF (f : Nat) : Bool := has [7, 15, 21, 22, 23, 34, 35, 78] f
def emHint (f t : Nat) : Nat := match get [(5, [(25, 1)]), (8, [(26, 1)]), (13, [(97, 1), (119, 1)]), (14, [(3, 1)]), (15, [(29, 1)]), (21, [(9, 1)]), (32, [(3, 1)]), (36, [(5, 1)]), (53, [(5, 1)]), (54, [(3, 1)]), (61, [(7, 1)]), (62, [(9, 1)]), (73, [(12, 1)])] f with
  | some l => (match get l t with | some k => k | none => 0)
  | none => 0

theorem emAwake : PT Tryd.prog 4 [] (· = [.bool true]) := PT.of_runTrue noSums_ok (heapF := emHF) (hint := emHint) (rounds := 1000) (k := 100) (by kernel_rfl)
end Go.Proofs
