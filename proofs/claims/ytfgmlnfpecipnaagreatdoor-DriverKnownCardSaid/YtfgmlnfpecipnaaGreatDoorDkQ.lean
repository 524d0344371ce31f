/- What the row's closed cells say of the program. -/
import Derived.Test.YtfgmlnfpecipnaaGreatDoorRows
import Derived.JoinedOf
import Derived.KernelRfl
namespace Go.Proofs
theorem j1 : Tryz.prog.inPlace 3 = ["internal/bytealg.IndexByteString", "internal/bytealg.IndexString", "maps.clone", "internal/reflectlite.TypeOf"] := by kernel_rfl
theorem j2 : Tryz.prog.unfollowed 3 = true := by kernel_rfl
theorem j3 : Tryz.prog.recurses 3 = true := by kernel_rfl
theorem j4 : Tryz.prog.varsNamed 3 = ["internal/bytealg.MaxLen", "internal/strconv.uint64pow10", "math/bits.deBruijn32tab", "math/bits.deBruijn64tab"] := by kernel_rfl
theorem closed : joinedFacts Tryz.prog 3 Tryz.f3 YtfgmlnfpecipnaaGreatDoor.Rows.driverKnownSpec YtfgmlnfpecipnaaGreatDoor.Rows.driverKnownRow = true := by
  unfold joinedFacts
  rw [j1, j2, j3, j4]
  kernel_rfl
end Go.Proofs
