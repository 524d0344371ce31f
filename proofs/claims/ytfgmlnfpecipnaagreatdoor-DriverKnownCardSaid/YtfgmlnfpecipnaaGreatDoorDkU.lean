/- What the card's closed cells say of the program: no goroutine. -/
import Derived.Test.YtfgmlnfpecipnaaGreatDoorRows
import Derived.Test.YtfgmlnfpecipnaaGreatDoorCards
import Derived.KernelRfl
namespace Go.Proofs
theorem c6 : YtfgmlnfpecipnaaGreatDoor.Rows.driverKnownRow.goesBy Tryz.prog = false := by kernel_rfl
end Go.Proofs
