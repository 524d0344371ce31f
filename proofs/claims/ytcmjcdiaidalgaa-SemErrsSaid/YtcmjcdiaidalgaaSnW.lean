/- The example of layer 12 runs. -/
import Derived.Test.YtcmjcdiaidalgaaMtInst
import Derived.Test.YtcmjcdiaidalgaaLibI
import Derived.KernelRfl
set_option linter.unusedVariables false
set_option linter.unusedSimpArgs false
set_option linter.unusedSectionVars false
namespace Go.Proofs
open Go.Mt
set_option maxRecDepth 4000
set_option linter.unusedVariables false

def snHF (f : Nat) : Bool := has [17, 35, 38, 39, 40, 41, 74, 78, 110, 111, 112] f
def snHint (f t : Nat) : Nat := match get [(16, [(10, 1), (30, 1)]), (17, [(14, 1)]), (34, [(3, 1)]), (35, [(18, 1), (76, 1)]), (37, [(24, 1), (28, 1), (52, 1), (77, 1)]), (38, [(9, 1)]), (42, [(5, 1)]), (59, [(29, 1), (59, 1)]), (61, [(3, 1), (8, 1)]), (77, [(3, 1)]), (82, [(26, 1)]), (83, [(4, 1), (6, 1), (9, 1), (10, 1)]), (91, [(7, 1)]), (92, [(9, 1)]), (107, [(61, 1)]), (113, [(4, 1), (5, 1), (6, 1), (7, 1), (9, 1), (10, 1), (20, 1)]), (114, [(2, 1), (3, 1)]), (116, [(3, 1)]), (131, [(3, 1)]), (133, [(3, 1)]), (137, [(3, 1), (4, 1), (5, 1)]), (153, [(3, 1)])] f with
  | some l => (match get l t with | some k => k | none => 0)
  | none => 0

theorem semAwake : PT Try.prog 15 [] (· = [.bool true]) := PT.of_runTrue noSums_ok (heapF := snHF) (hint := snHint) (rounds := 1000) (k := 100) (by kernel_rfl)
end Go.Proofs
