/- DeautoStates is true, whatever comes in. -/
import Derived.Test.YtpejinbpecghaaaGreatDoorDaI
import Derived.Test.YtpejinbpecghaaaGreatDoorDaJ
import Derived.Test.YtpejinbpecghaaaGreatDoorDaK
import Derived.Test.YtpejinbpecghaaaGreatDoorDaL
namespace Go.Proofs
open Go.Mt
theorem DeautoStates_true (cs : List Bool) (v : D) (hin : InB cs v) (s r : Bool) : PT Tryz.prog 3 [v, .bool s, .bool r] (· = [.bool true]) := by
  cases s <;> cases r
  · exact loopFF cs v hin
  · exact loopFT cs v hin
  · exact loopTF cs v hin
  · exact loopTT cs v hin
end Go.Proofs
