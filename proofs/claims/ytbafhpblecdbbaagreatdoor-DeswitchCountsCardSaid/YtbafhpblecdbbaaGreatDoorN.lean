/- A part of the proof of the last text of this claim, without conditions. -/
import Derived.Test.YtbafhpblecdbbaaGreatDoorM
import Derived.Test.YtbafhpblecdbbaaGreatDoorRows
import Derived.JoinedOf
set_option maxRecDepth 4000
set_option linter.all false
namespace Go.Proofs.Pz
open Tryz
theorem j1:prog.inPlace 10=[]:=by kernel_rfl
theorem j2:prog.unfollowed 10=true:=by kernel_rfl
theorem j3:prog.recurses 10=true:=by kernel_rfl
theorem j4:prog.varsNamed 10=["internal/strconv.uint64pow10", "math/bits.deBruijn32tab", "math/bits.deBruijn64tab"]:=by kernel_rfl
theorem closed:joinedFacts prog 10 f10 YtbafhpblecdbbaaGreatDoor.Rows.deswitchCountsSpec YtbafhpblecdbbaaGreatDoor.Rows.deswitchCountsRow=true:=by
 unfold joinedFacts;rw[j1,j2,j3,j4]
 kernel_rfl
end Go.Proofs.Pz
