/- What the card's closed cells say of the program. -/
import Derived.Test.YtfgmlnfpecipnaaGreatDoorRows
import Derived.Test.YtfgmlnfpecipnaaGreatDoorCards
import Derived.KernelRfl
namespace Go.Proofs
theorem c1 : YtfgmlnfpecipnaaGreatDoor.Rows.driverKnownRow.wfByText (OpenSpec.ofChange YtfgmlnfpecipnaaGreatDoor.Rows.driverKnownSpec) = true := by kernel_rfl
theorem c2 : Tryz.prog.mainIs = some (true, "79b5a97c92f3d30a213bac47c6e06bcc9859c2eed626cd5cc477d71c94dffddb".toList) := by kernel_rfl
theorem c3 : Tryz.prog.funcNamed "metronome/metronomelaw26.DriverKnown" = some 3 := by kernel_rfl
theorem c4 : Tryz.prog.looks [] = true := by kernel_rfl
theorem c5 : ([3, 23, 9].all fun u => !Tryz.prog.wantsStandIn u) = true := by kernel_rfl
end Go.Proofs
