/- A part of the proof of the last text of this claim, without conditions. -/
import Derived.Test.YtbafhpblecdbbaaGreatDoorN
import Derived.Test.YtbafhpblecdbbaaGreatDoorCards
set_option maxRecDepth 4000
set_option linter.all false
namespace Go.Proofs.Pz
open Tryz
theorem c1:YtbafhpblecdbbaaGreatDoor.Rows.deswitchCountsRow.wfByText (OpenSpec.ofChange YtbafhpblecdbbaaGreatDoor.Rows.deswitchCountsSpec)=true:=by kernel_rfl
theorem c2:prog.mainIs=some (true, "f50347e73aaa9d340bc349c5a52e56f4bb5d0113295c3e190f190ebf72de17ac".toList):=by kernel_rfl
theorem c3:prog.funcNamed "metronome/metronomelaw14.DeswitchCounts" =some 10:=by kernel_rfl
theorem c4:prog.looks []=true:=by kernel_rfl
theorem c5:([68].all λu=> !prog.wantsStandIn u)=true:=by kernel_rfl
end Go.Proofs.Pz
