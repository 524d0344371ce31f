/-
  No cell of these rows narrows 'for every input' (looked for: loops, veiled, ifaces, maps, wideKeys, modest, calm, conditions, laid).
  DERIVED. THE GIVEN ROWS OF THIS SEAT. 8 by the template 'for every input the law returns true; each argument reads behind the call as it read before'; 0 by the template 'total and deterministic' (their statements: YtjhinemdonddoaaTotals.lean).
  GIVEN WITH THE SEED: the statements are not yours to turn. If you find one false, say at which input.
  Laid BY PROGRAM, IN A SANDBOX (cutbox-rows.mjs): the forced cells as the released guide's own fill.sh prints them over the translation 086db0343c665ad2… (all of the seat's roots in one cut). By AI agents, Wed Nov 11 2026. No macro, syntax, notation, axiom, sorry.
-/
import Derived.Test.YtjhinemdonddoaaChecked
import GoSem.Claim
import GoSem.ClaimJoined
import GoSem.ClaimMapViews
import Derived.JoinedTies
import Derived.KernelRfl
namespace Go.Proofs.Ytjhinemdonddoaa
/- THE CELL 'sum', in the pinned program and in every row, IS THE sha256 OF THE DUMP (.gsa) THAT YtjhinemdonddoaaProg.lean LOADS. Nothing in Lean hashes anything: it is a label: what it is worth is what the hold of that sum in a sandbox is worth. -/
noncomputable def Try.pinned : Pinned := { name := "ytjhinemdonddoaa", sum := "086db0343c665ad21ba749eea7e6e8dc5710312d541b3f43c47e6ba03612bda7", checked := Try.checked }
namespace Rows
def none {H : Type} : Left H := { results := [], args := [] }

/-- 'metronomelaw22.FuseStmts': WHATEVER THE INPUT: true; the input reads as it did. -/
def fuseStmtsSpec : ChangeSpec := { name := "fuseStmts", fn := fun _ => fun
  | [d] => { results := [.lit (.bool true)], args := [d] }
  | _ => none }
def fuseStmtsRow : OpenClaim := { program := "ytjhinemdonddoaa", sum := "086db0343c665ad21ba749eea7e6e8dc5710312d541b3f43c47e6ba03612bda7", func := "metronome/metronomelaw22.FuseStmts", spec := "fuseStmts", unfollowed := true, recurses := true, apart := false }
def FuseStmtsSaid : Prop := fuseStmtsRow.holds Try.pinned (OpenSpec.ofChange fuseStmtsSpec)

/-- ITS FALSE NEIGHBOUR: 'it returns false'. Refute it at one input. -/
def fuseStmtsWrong : ChangeSpec := { name := "fuseStmts", fn := fun _ => fun
  | [d] => { results := [.lit (.bool false)], args := [d] }
  | _ => none }
def FuseStmtsWrongFalsely : Prop := fuseStmtsRow.holds Try.pinned (OpenSpec.ofChange fuseStmtsWrong)

/-- 'metronomelaw22.FuseCounts': WHATEVER THE INPUT: true; the input reads as it did. -/
def fuseCountsSpec : ChangeSpec := { name := "fuseCounts", fn := fun _ => fun
  | [d] => { results := [.lit (.bool true)], args := [d] }
  | _ => none }
def fuseCountsRow : OpenClaim := { program := "ytjhinemdonddoaa", sum := "086db0343c665ad21ba749eea7e6e8dc5710312d541b3f43c47e6ba03612bda7", func := "metronome/metronomelaw22.FuseCounts", spec := "fuseCounts", unfollowed := true, recurses := true, apart := false }
def FuseCountsSaid : Prop := fuseCountsRow.holds Try.pinned (OpenSpec.ofChange fuseCountsSpec)

/-- ITS FALSE NEIGHBOUR: 'it returns false'. Refute it at one input. -/
def fuseCountsWrong : ChangeSpec := { name := "fuseCounts", fn := fun _ => fun
  | [d] => { results := [.lit (.bool false)], args := [d] }
  | _ => none }
def FuseCountsWrongFalsely : Prop := fuseCountsRow.holds Try.pinned (OpenSpec.ofChange fuseCountsWrong)

/-- 'metronomelaw24.LowerNames': WHATEVER THE INPUT: true; the input reads as it did. -/
def lowerNamesSpec : ChangeSpec := { name := "lowerNames", fn := fun _ => fun
  | [d1, d2] => { results := [.lit (.bool true)], args := [d1, d2] }
  | _ => none }
def lowerNamesRow : OpenClaim := { program := "ytjhinemdonddoaa", sum := "086db0343c665ad21ba749eea7e6e8dc5710312d541b3f43c47e6ba03612bda7", func := "metronome/metronomelaw24.LowerNames", spec := "lowerNames", unfollowed := true, recurses := true, apart := false }
def LowerNamesSaid : Prop := lowerNamesRow.holds Try.pinned (OpenSpec.ofChange lowerNamesSpec)

/-- ITS FALSE NEIGHBOUR: 'it returns false'. Refute it at one input. -/
def lowerNamesWrong : ChangeSpec := { name := "lowerNames", fn := fun _ => fun
  | [d1, d2] => { results := [.lit (.bool false)], args := [d1, d2] }
  | _ => none }
def LowerNamesWrongFalsely : Prop := lowerNamesRow.holds Try.pinned (OpenSpec.ofChange lowerNamesWrong)

/-- 'metronomelaw16.FlowResets': WHATEVER THE INPUT: true; the input reads as it did. -/
def flowResetsSpec : ChangeSpec := { name := "flowResets", fn := fun _ => fun
  | [d] => { results := [.lit (.bool true)], args := [d] }
  | _ => none }
def flowResetsRow : OpenClaim := { program := "ytjhinemdonddoaa", sum := "086db0343c665ad21ba749eea7e6e8dc5710312d541b3f43c47e6ba03612bda7", func := "metronome/metronomelaw16.FlowResets", spec := "flowResets", unfollowed := true, recurses := true, apart := false }
def FlowResetsSaid : Prop := flowResetsRow.holds Try.pinned (OpenSpec.ofChange flowResetsSpec)

/-- ITS FALSE NEIGHBOUR: 'it returns false'. Refute it at one input. -/
def flowResetsWrong : ChangeSpec := { name := "flowResets", fn := fun _ => fun
  | [d] => { results := [.lit (.bool false)], args := [d] }
  | _ => none }
def FlowResetsWrongFalsely : Prop := flowResetsRow.holds Try.pinned (OpenSpec.ofChange flowResetsWrong)

/-- 'metronomelaw16.FlowClocks': WHATEVER THE INPUT: true; the input reads as it did. -/
def flowClocksSpec : ChangeSpec := { name := "flowClocks", fn := fun _ => fun
  | [d1, d2] => { results := [.lit (.bool true)], args := [d1, d2] }
  | _ => none }
def flowClocksRow : OpenClaim := { program := "ytjhinemdonddoaa", sum := "086db0343c665ad21ba749eea7e6e8dc5710312d541b3f43c47e6ba03612bda7", func := "metronome/metronomelaw16.FlowClocks", spec := "flowClocks", unfollowed := true, recurses := true, apart := false }
def FlowClocksSaid : Prop := flowClocksRow.holds Try.pinned (OpenSpec.ofChange flowClocksSpec)

/-- ITS FALSE NEIGHBOUR: 'it returns false'. Refute it at one input. -/
def flowClocksWrong : ChangeSpec := { name := "flowClocks", fn := fun _ => fun
  | [d1, d2] => { results := [.lit (.bool false)], args := [d1, d2] }
  | _ => none }
def FlowClocksWrongFalsely : Prop := flowClocksRow.holds Try.pinned (OpenSpec.ofChange flowClocksWrong)

/-- 'metronomelaw19.GraphRights': WHATEVER THE INPUT: true; the input reads as it did. -/
def graphRightsSpec : ChangeSpec := { name := "graphRights", fn := fun _ => fun
  | [d1, d2, d3] => { results := [.lit (.bool true)], args := [d1, d2, d3] }
  | _ => none }
def graphRightsRow : OpenClaim := { program := "ytjhinemdonddoaa", sum := "086db0343c665ad21ba749eea7e6e8dc5710312d541b3f43c47e6ba03612bda7", func := "metronome/metronomelaw19.GraphRights", spec := "graphRights", unfollowed := true, recurses := true, apart := false }
def GraphRightsSaid : Prop := graphRightsRow.holds Try.pinned (OpenSpec.ofChange graphRightsSpec)

/-- ITS FALSE NEIGHBOUR: 'it returns false'. Refute it at one input. -/
def graphRightsWrong : ChangeSpec := { name := "graphRights", fn := fun _ => fun
  | [d1, d2, d3] => { results := [.lit (.bool false)], args := [d1, d2, d3] }
  | _ => none }
def GraphRightsWrongFalsely : Prop := graphRightsRow.holds Try.pinned (OpenSpec.ofChange graphRightsWrong)

/-- 'metronomelaw19.GraphCycles': WHATEVER THE INPUT: true; the input reads as it did. -/
def graphCyclesSpec : ChangeSpec := { name := "graphCycles", fn := fun _ => fun
  | [d] => { results := [.lit (.bool true)], args := [d] }
  | _ => none }
def graphCyclesRow : OpenClaim := { program := "ytjhinemdonddoaa", sum := "086db0343c665ad21ba749eea7e6e8dc5710312d541b3f43c47e6ba03612bda7", func := "metronome/metronomelaw19.GraphCycles", spec := "graphCycles", unfollowed := true, recurses := true, apart := false }
def GraphCyclesSaid : Prop := graphCyclesRow.holds Try.pinned (OpenSpec.ofChange graphCyclesSpec)

/-- ITS FALSE NEIGHBOUR: 'it returns false'. Refute it at one input. -/
def graphCyclesWrong : ChangeSpec := { name := "graphCycles", fn := fun _ => fun
  | [d] => { results := [.lit (.bool false)], args := [d] }
  | _ => none }
def GraphCyclesWrongFalsely : Prop := graphCyclesRow.holds Try.pinned (OpenSpec.ofChange graphCyclesWrong)

/-- 'metronomelaw19.GraphChains': WHATEVER THE INPUT: true; the input reads as it did. -/
def graphChainsSpec : ChangeSpec := { name := "graphChains", fn := fun _ => fun
  | [d] => { results := [.lit (.bool true)], args := [d] }
  | _ => none }
def graphChainsRow : OpenClaim := { program := "ytjhinemdonddoaa", sum := "086db0343c665ad21ba749eea7e6e8dc5710312d541b3f43c47e6ba03612bda7", func := "metronome/metronomelaw19.GraphChains", spec := "graphChains", unfollowed := true, recurses := true, apart := false }
def GraphChainsSaid : Prop := graphChainsRow.holds Try.pinned (OpenSpec.ofChange graphChainsSpec)

/-- ITS FALSE NEIGHBOUR: 'it returns false'. Refute it at one input. -/
def graphChainsWrong : ChangeSpec := { name := "graphChains", fn := fun _ => fun
  | [d] => { results := [.lit (.bool false)], args := [d] }
  | _ => none }
def GraphChainsWrongFalsely : Prop := graphChainsRow.holds Try.pinned (OpenSpec.ofChange graphChainsWrong)

/- THE SECOND FORM. 'bulk': how many values and letters a reading holds, each counted each time it is reached (what is shared counts as often as it is met; a slice's spare places count too). A statement '..UptoSaid' is the law's where the arguments, and the package variables that the reading takes, are together of bulk at most 1048576: NARROWER than '..Said'. Prove '..Said' where nothing that the law and all that it calls make is longer than what came in: it says more and counts as full. Else prove '..UptoSaid'. A law counts once. -/
mutual
def uptoBulk {H : Type} : DataW H → Nat
  | .lit (.string bytes) => bytes.length + 1
  | .lit _ => 1
  | .nil => 1
  | .ptr d => uptoBulk d + 1
  | .slice elems spare => uptoBulkAll elems + uptoBulkAll spare + 1
  | .agg parts => uptoBulkAll parts + 1
  | .iface _ d => uptoBulk d + 1
  | .map entries => uptoBulkEntries entries + 1
  | .held _ => 1
def uptoBulkAll {H : Type} : List (DataW H) → Nat
  | [] => 0
  | d :: r => uptoBulk d + uptoBulkAll r
def uptoBulkEntries {H : Type} : List (Lit × DataW H) → Nat
  | [] => 0
  | x :: r => uptoBulkEntry x + uptoBulkEntries r
def uptoBulkEntry {H : Type} : Lit × DataW H → Nat
  | (.string bytes, d) => bytes.length + uptoBulk d + 1
  | (_, d) => uptoBulk d + 1
 end
def uptoSmall : (H : Type) → List (DataW H) → Bool := fun _ ds => decide (uptoBulkAll ds ≤ 1048576)
def OpenSpec.upto (s : _root_.Go.ChangeSpec) : _root_.Go.OpenSpec := { _root_.Go.OpenSpec.ofChange s with cond := some uptoSmall }

/-- 'metronomelaw22.FuseStmts', WHERE WHAT IT READS IS OF BULK AT MOST 1048576: true; the input reads as it did. -/
def fuseStmtsUptoRow : OpenClaim := { program := "ytjhinemdonddoaa", sum := "086db0343c665ad21ba749eea7e6e8dc5710312d541b3f43c47e6ba03612bda7", func := "metronome/metronomelaw22.FuseStmts", spec := "fuseStmts", unfollowed := true, recurses := true, apart := false, narrowed := true }
def FuseStmtsUptoSaid : Prop := fuseStmtsUptoRow.holds Try.pinned (OpenSpec.upto fuseStmtsSpec)

/-- 'metronomelaw22.FuseCounts', WHERE WHAT IT READS IS OF BULK AT MOST 1048576: true; the input reads as it did. -/
def fuseCountsUptoRow : OpenClaim := { program := "ytjhinemdonddoaa", sum := "086db0343c665ad21ba749eea7e6e8dc5710312d541b3f43c47e6ba03612bda7", func := "metronome/metronomelaw22.FuseCounts", spec := "fuseCounts", unfollowed := true, recurses := true, apart := false, narrowed := true }
def FuseCountsUptoSaid : Prop := fuseCountsUptoRow.holds Try.pinned (OpenSpec.upto fuseCountsSpec)

/-- 'metronomelaw24.LowerNames', WHERE WHAT IT READS IS OF BULK AT MOST 1048576: true; the input reads as it did. -/
def lowerNamesUptoRow : OpenClaim := { program := "ytjhinemdonddoaa", sum := "086db0343c665ad21ba749eea7e6e8dc5710312d541b3f43c47e6ba03612bda7", func := "metronome/metronomelaw24.LowerNames", spec := "lowerNames", unfollowed := true, recurses := true, apart := false, narrowed := true }
def LowerNamesUptoSaid : Prop := lowerNamesUptoRow.holds Try.pinned (OpenSpec.upto lowerNamesSpec)

/-- 'metronomelaw16.FlowResets', WHERE WHAT IT READS IS OF BULK AT MOST 1048576: true; the input reads as it did. -/
def flowResetsUptoRow : OpenClaim := { program := "ytjhinemdonddoaa", sum := "086db0343c665ad21ba749eea7e6e8dc5710312d541b3f43c47e6ba03612bda7", func := "metronome/metronomelaw16.FlowResets", spec := "flowResets", unfollowed := true, recurses := true, apart := false, narrowed := true }
def FlowResetsUptoSaid : Prop := flowResetsUptoRow.holds Try.pinned (OpenSpec.upto flowResetsSpec)

/-- 'metronomelaw16.FlowClocks', WHERE WHAT IT READS IS OF BULK AT MOST 1048576: true; the input reads as it did. -/
def flowClocksUptoRow : OpenClaim := { program := "ytjhinemdonddoaa", sum := "086db0343c665ad21ba749eea7e6e8dc5710312d541b3f43c47e6ba03612bda7", func := "metronome/metronomelaw16.FlowClocks", spec := "flowClocks", unfollowed := true, recurses := true, apart := false, narrowed := true }
def FlowClocksUptoSaid : Prop := flowClocksUptoRow.holds Try.pinned (OpenSpec.upto flowClocksSpec)

/-- 'metronomelaw19.GraphRights', WHERE WHAT IT READS IS OF BULK AT MOST 1048576: true; the input reads as it did. -/
def graphRightsUptoRow : OpenClaim := { program := "ytjhinemdonddoaa", sum := "086db0343c665ad21ba749eea7e6e8dc5710312d541b3f43c47e6ba03612bda7", func := "metronome/metronomelaw19.GraphRights", spec := "graphRights", unfollowed := true, recurses := true, apart := false, narrowed := true }
def GraphRightsUptoSaid : Prop := graphRightsUptoRow.holds Try.pinned (OpenSpec.upto graphRightsSpec)

/-- 'metronomelaw19.GraphCycles', WHERE WHAT IT READS IS OF BULK AT MOST 1048576: true; the input reads as it did. -/
def graphCyclesUptoRow : OpenClaim := { program := "ytjhinemdonddoaa", sum := "086db0343c665ad21ba749eea7e6e8dc5710312d541b3f43c47e6ba03612bda7", func := "metronome/metronomelaw19.GraphCycles", spec := "graphCycles", unfollowed := true, recurses := true, apart := false, narrowed := true }
def GraphCyclesUptoSaid : Prop := graphCyclesUptoRow.holds Try.pinned (OpenSpec.upto graphCyclesSpec)

/-- 'metronomelaw19.GraphChains', WHERE WHAT IT READS IS OF BULK AT MOST 1048576: true; the input reads as it did. -/
def graphChainsUptoRow : OpenClaim := { program := "ytjhinemdonddoaa", sum := "086db0343c665ad21ba749eea7e6e8dc5710312d541b3f43c47e6ba03612bda7", func := "metronome/metronomelaw19.GraphChains", spec := "graphChains", unfollowed := true, recurses := true, apart := false, narrowed := true }
def GraphChainsUptoSaid : Prop := graphChainsUptoRow.holds Try.pinned (OpenSpec.upto graphChainsSpec)

end Rows
end Go.Proofs.Ytjhinemdonddoaa
