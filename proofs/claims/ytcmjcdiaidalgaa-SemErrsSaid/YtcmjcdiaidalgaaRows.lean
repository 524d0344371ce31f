/-
  No cell of these rows narrows 'for every input' (looked for: loops, veiled, ifaces, maps, wideKeys, modest, calm, conditions, laid).
  DERIVED. THE GIVEN ROWS OF THIS SEAT. 4 by the template 'for every input the law returns true; each argument reads behind the call as it read before'; 0 by the template 'total and deterministic' (their statements: YtcmjcdiaidalgaaTotals.lean).
  GIVEN WITH THE SEED: the statements are not yours to turn. If you find one false, say at which input.
  Laid BY PROGRAM, IN A SANDBOX (cutbox-rows.mjs): the forced cells as the released guide's own fill.sh prints them over the translation f360bdb20c386711… (all of the seat's roots in one cut). By AI agents, Wed Nov 11 2026. No macro, syntax, notation, axiom, sorry.
-/
import Derived.Test.YtcmjcdiaidalgaaChecked
import GoSem.Claim
import GoSem.ClaimJoined
import GoSem.ClaimMapViews
import Derived.JoinedTies
import Derived.KernelRfl
namespace Go.Proofs.Ytcmjcdiaidalgaa
/- THE CELL 'sum', in the pinned program and in every row, IS THE sha256 OF THE DUMP (.gsa) THAT YtcmjcdiaidalgaaProg.lean LOADS. Nothing in Lean hashes anything: it is a label: what it is worth is what the hold of that sum in a sandbox is worth. -/
noncomputable def Try.pinned : Pinned := { name := "ytcmjcdiaidalgaa", sum := "f360bdb20c3867117a2aeb1767ec2016eaf5f30b54e5403240691c9ffe4982ec", checked := Try.checked }
namespace Rows
def none {H : Type} : Left H := { results := [], args := [] }

/-- 'metronomelaw19.GraphRights': WHATEVER THE INPUT: true; the input reads as it did. -/
def graphRightsSpec : ChangeSpec := { name := "graphRights", fn := fun _ => fun
  | [d1, d2, d3] => { results := [.lit (.bool true)], args := [d1, d2, d3] }
  | _ => none }
def graphRightsRow : OpenClaim := { program := "ytcmjcdiaidalgaa", sum := "f360bdb20c3867117a2aeb1767ec2016eaf5f30b54e5403240691c9ffe4982ec", func := "metronome/metronomelaw19.GraphRights", spec := "graphRights", unfollowed := true, recurses := true, apart := false }
def GraphRightsSaid : Prop := graphRightsRow.holds Try.pinned (OpenSpec.ofChange graphRightsSpec)

/-- ITS FALSE NEIGHBOUR: 'it returns false'. Refute it at one input. -/
def graphRightsWrong : ChangeSpec := { name := "graphRights", fn := fun _ => fun
  | [d1, d2, d3] => { results := [.lit (.bool false)], args := [d1, d2, d3] }
  | _ => none }
def GraphRightsWrongFalsely : Prop := graphRightsRow.holds Try.pinned (OpenSpec.ofChange graphRightsWrong)

/-- 'metronomelaw19.GraphCycles': WHATEVER THE INPUT: true; the input reads as it did. -/
def graphCyclesSpec : ChangeSpec := { name := "graphCycles", fn := fun _ => fun
  | [d] => { results := [.lit (.bool true)], args := [d] }
  | _ => none }
def graphCyclesRow : OpenClaim := { program := "ytcmjcdiaidalgaa", sum := "f360bdb20c3867117a2aeb1767ec2016eaf5f30b54e5403240691c9ffe4982ec", func := "metronome/metronomelaw19.GraphCycles", spec := "graphCycles", unfollowed := true, recurses := true, apart := false }
def GraphCyclesSaid : Prop := graphCyclesRow.holds Try.pinned (OpenSpec.ofChange graphCyclesSpec)

/-- ITS FALSE NEIGHBOUR: 'it returns false'. Refute it at one input. -/
def graphCyclesWrong : ChangeSpec := { name := "graphCycles", fn := fun _ => fun
  | [d] => { results := [.lit (.bool false)], args := [d] }
  | _ => none }
def GraphCyclesWrongFalsely : Prop := graphCyclesRow.holds Try.pinned (OpenSpec.ofChange graphCyclesWrong)

/-- 'metronomelaw19.GraphChains': WHATEVER THE INPUT: true; the input reads as it did. -/
def graphChainsSpec : ChangeSpec := { name := "graphChains", fn := fun _ => fun
  | [d] => { results := [.lit (.bool true)], args := [d] }
  | _ => none }
def graphChainsRow : OpenClaim := { program := "ytcmjcdiaidalgaa", sum := "f360bdb20c3867117a2aeb1767ec2016eaf5f30b54e5403240691c9ffe4982ec", func := "metronome/metronomelaw19.GraphChains", spec := "graphChains", unfollowed := true, recurses := true, apart := false }
def GraphChainsSaid : Prop := graphChainsRow.holds Try.pinned (OpenSpec.ofChange graphChainsSpec)

/-- ITS FALSE NEIGHBOUR: 'it returns false'. Refute it at one input. -/
def graphChainsWrong : ChangeSpec := { name := "graphChains", fn := fun _ => fun
  | [d] => { results := [.lit (.bool false)], args := [d] }
  | _ => none }
def GraphChainsWrongFalsely : Prop := graphChainsRow.holds Try.pinned (OpenSpec.ofChange graphChainsWrong)

/-- 'metronomelaw12.SemErrs': WHATEVER THE INPUT: true; the input reads as it did. -/
def semErrsSpec : ChangeSpec := { name := "semErrs", fn := fun _ => fun
  | [d1, d2, d3] => { results := [.lit (.bool true)], args := [d1, d2, d3] }
  | _ => none }
def semErrsRow : OpenClaim := { program := "ytcmjcdiaidalgaa", sum := "f360bdb20c3867117a2aeb1767ec2016eaf5f30b54e5403240691c9ffe4982ec", func := "metronome/metronomelaw12.SemErrs", spec := "semErrs", unfollowed := true, recurses := true, apart := false }
def SemErrsSaid : Prop := semErrsRow.holds Try.pinned (OpenSpec.ofChange semErrsSpec)

/-- ITS FALSE NEIGHBOUR: 'it returns false'. Refute it at one input. -/
def semErrsWrong : ChangeSpec := { name := "semErrs", fn := fun _ => fun
  | [d1, d2, d3] => { results := [.lit (.bool false)], args := [d1, d2, d3] }
  | _ => none }
def SemErrsWrongFalsely : Prop := semErrsRow.holds Try.pinned (OpenSpec.ofChange semErrsWrong)

/- THE SECOND FORM. 'bulk': how many values and letters a reading holds, each counted each time it is reached (what is shared counts as often as it is met; a slice's spare places count too). A statement '..UptoSaid' is the law's where the arguments, and the package variables that the reading takes, are together of bulk at most 1048576: NARROWER than '..Said'. Prove '..Said' where nothing that the law and all that it calls make is longer than what came in: it says more and counts as full. Else prove '..UptoSaid'. A law counts once. -/
mutual
def uptoBulk {H : Type} : DataW H → Nat
  | .lit (.string bytes) => bytes.length + 1
  | .lit _ => 1
  | .nil => 1
  | .ptr d => uptoBulk d + 1
  | .slice elems spare => uptoBulkAll elems + uptoBulkAll spare + 1
  | .agg parts => uptoBulkAll parts + 1
  | .iface _ d => uptoBulk d + 1
  | .map entries => uptoBulkEntries entries + 1
  | .held _ => 1
def uptoBulkAll {H : Type} : List (DataW H) → Nat
  | [] => 0
  | d :: r => uptoBulk d + uptoBulkAll r
def uptoBulkEntries {H : Type} : List (Lit × DataW H) → Nat
  | [] => 0
  | x :: r => uptoBulkEntry x + uptoBulkEntries r
def uptoBulkEntry {H : Type} : Lit × DataW H → Nat
  | (.string bytes, d) => bytes.length + uptoBulk d + 1
  | (_, d) => uptoBulk d + 1
 end
def uptoSmall : (H : Type) → List (DataW H) → Bool := fun _ ds => decide (uptoBulkAll ds ≤ 1048576)
def OpenSpec.upto (s : _root_.Go.ChangeSpec) : _root_.Go.OpenSpec := { _root_.Go.OpenSpec.ofChange s with cond := some uptoSmall }

/-- 'metronomelaw19.GraphRights', WHERE WHAT IT READS IS OF BULK AT MOST 1048576: true; the input reads as it did. -/
def graphRightsUptoRow : OpenClaim := { program := "ytcmjcdiaidalgaa", sum := "f360bdb20c3867117a2aeb1767ec2016eaf5f30b54e5403240691c9ffe4982ec", func := "metronome/metronomelaw19.GraphRights", spec := "graphRights", unfollowed := true, recurses := true, apart := false, narrowed := true }
def GraphRightsUptoSaid : Prop := graphRightsUptoRow.holds Try.pinned (OpenSpec.upto graphRightsSpec)

/-- 'metronomelaw19.GraphCycles', WHERE WHAT IT READS IS OF BULK AT MOST 1048576: true; the input reads as it did. -/
def graphCyclesUptoRow : OpenClaim := { program := "ytcmjcdiaidalgaa", sum := "f360bdb20c3867117a2aeb1767ec2016eaf5f30b54e5403240691c9ffe4982ec", func := "metronome/metronomelaw19.GraphCycles", spec := "graphCycles", unfollowed := true, recurses := true, apart := false, narrowed := true }
def GraphCyclesUptoSaid : Prop := graphCyclesUptoRow.holds Try.pinned (OpenSpec.upto graphCyclesSpec)

/-- 'metronomelaw19.GraphChains', WHERE WHAT IT READS IS OF BULK AT MOST 1048576: true; the input reads as it did. -/
def graphChainsUptoRow : OpenClaim := { program := "ytcmjcdiaidalgaa", sum := "f360bdb20c3867117a2aeb1767ec2016eaf5f30b54e5403240691c9ffe4982ec", func := "metronome/metronomelaw19.GraphChains", spec := "graphChains", unfollowed := true, recurses := true, apart := false, narrowed := true }
def GraphChainsUptoSaid : Prop := graphChainsUptoRow.holds Try.pinned (OpenSpec.upto graphChainsSpec)

/-- 'metronomelaw12.SemErrs', WHERE WHAT IT READS IS OF BULK AT MOST 1048576: true; the input reads as it did. -/
def semErrsUptoRow : OpenClaim := { program := "ytcmjcdiaidalgaa", sum := "f360bdb20c3867117a2aeb1767ec2016eaf5f30b54e5403240691c9ffe4982ec", func := "metronome/metronomelaw12.SemErrs", spec := "semErrs", unfollowed := true, recurses := true, apart := false, narrowed := true }
def SemErrsUptoSaid : Prop := semErrsUptoRow.holds Try.pinned (OpenSpec.upto semErrsSpec)

end Rows
end Go.Proofs.Ytcmjcdiaidalgaa
