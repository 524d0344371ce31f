/- A part of the proof of the last text of this claim, without conditions. -/
import Derived.Test.YtbafhpblecdbbaaGreatDoorO
set_option maxRecDepth 4000
set_option linter.all false
namespace Go.Proofs.Pz
theorem c6:YtbafhpblecdbbaaGreatDoor.Rows.deswitchCountsRow.goesBy Tryz.prog=false:=by kernel_rfl
end Go.Proofs.Pz
