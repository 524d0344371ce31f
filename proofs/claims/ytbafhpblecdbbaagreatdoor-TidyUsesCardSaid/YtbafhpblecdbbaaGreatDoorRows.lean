/-
  NARROWER THAN 'FOR EVERY INPUT', by the rows' own cells (each row's printed sentence says how): NormalCounts: laid · NormalForms: laid · NormalTypes: laid · TidyCopies: laid · TidyUses: laid · TidyDead: laid · TidyForms: laid · DeswitchCounts: laid · NormalMeans: laid · GraphNeeds: laid · GraphPrograms: laid · TidyMeans: laid.
  DERIVED. THE GIVEN ROWS OF THIS SEAT. 12 by the template 'for every input the law returns true; each argument reads behind the call as it read before'; 0 by the template 'total and deterministic' (their statements: YtbafhpblecdbbaaGreatDoorTotals.lean).
  GIVEN WITH THE SEED: the statements are not yours to turn. If you find one false, say at which input.
  Laid BY PROGRAM, IN A SANDBOX (cutbox-rows.mjs): the forced cells as the released guide's own fill.sh prints them over the translation 085bbba0f2a0d455… (all of the seat's roots in one cut). By AI agents, Wed Nov 11 2026. No macro, syntax, notation, axiom, sorry.
-/
import Derived.Test.YtbafhpblecdbbaaGreatDoorChecked
import GoSem.Claim
import GoSem.ClaimJoined
import GoSem.ClaimMapViews
import Derived.JoinedTies
import Derived.KernelRfl
namespace Go.Proofs.YtbafhpblecdbbaaGreatDoor
/- THE CELL 'sum', in the pinned program and in every row, IS THE sha256 OF THE DUMP (.gsa) THAT YtbafhpblecdbbaaGreatDoorProg.lean LOADS. Nothing in Lean hashes anything: it is a label: what it is worth is what the hold of that sum in a sandbox is worth. -/
noncomputable def Tryz.pinned : Pinned := { name := "ytbafhpblecdbbaagreatdoor", sum := "085bbba0f2a0d455d6af780680c95a484b04392bdd3533cfebcfa3353bb1b5d1", checked := Tryz.checked }
namespace Rows
def none {H : Type} : Left H := { results := [], args := [] }

/- WHAT THE LISTED PACKAGE-LEVEL VARIABLES READ AS WHEN THE CALL BEGINS. Each datum BY PROGRAM (the guide's laid-datum.mjs) off the statement by which the dump's own 'gosem.cut.vars' lays the variable. In a bare row this is a premise. The card (YtbafhpblecdbbaaGreatDoorCards.lean) ties it to the program's text. -/
def laid_math_bits_deBruijn32tab {H : Type} : DataW H := .agg [.lit (.int .u8 0), .lit (.int .u8 1), .lit (.int .u8 28), .lit (.int .u8 2), .lit (.int .u8 29), .lit (.int .u8 14), .lit (.int .u8 24), .lit (.int .u8 3), .lit (.int .u8 30), .lit (.int .u8 22), .lit (.int .u8 20), .lit (.int .u8 15), .lit (.int .u8 25), .lit (.int .u8 17), .lit (.int .u8 4), .lit (.int .u8 8), .lit (.int .u8 31), .lit (.int .u8 27), .lit (.int .u8 13), .lit (.int .u8 23), .lit (.int .u8 21), .lit (.int .u8 19), .lit (.int .u8 16), .lit (.int .u8 7), .lit (.int .u8 26), .lit (.int .u8 12), .lit (.int .u8 18), .lit (.int .u8 6), .lit (.int .u8 11), .lit (.int .u8 5), .lit (.int .u8 10), .lit (.int .u8 9)]
def laid_math_bits_deBruijn64tab {H : Type} : DataW H := .agg [.lit (.int .u8 0), .lit (.int .u8 1), .lit (.int .u8 56), .lit (.int .u8 2), .lit (.int .u8 57), .lit (.int .u8 49), .lit (.int .u8 28), .lit (.int .u8 3), .lit (.int .u8 61), .lit (.int .u8 58), .lit (.int .u8 42), .lit (.int .u8 50), .lit (.int .u8 38), .lit (.int .u8 29), .lit (.int .u8 17), .lit (.int .u8 4), .lit (.int .u8 62), .lit (.int .u8 47), .lit (.int .u8 59), .lit (.int .u8 36), .lit (.int .u8 45), .lit (.int .u8 43), .lit (.int .u8 51), .lit (.int .u8 22), .lit (.int .u8 53), .lit (.int .u8 39), .lit (.int .u8 33), .lit (.int .u8 30), .lit (.int .u8 24), .lit (.int .u8 18), .lit (.int .u8 12), .lit (.int .u8 5), .lit (.int .u8 63), .lit (.int .u8 55), .lit (.int .u8 48), .lit (.int .u8 27), .lit (.int .u8 60), .lit (.int .u8 41), .lit (.int .u8 37), .lit (.int .u8 16), .lit (.int .u8 46), .lit (.int .u8 35), .lit (.int .u8 44), .lit (.int .u8 21), .lit (.int .u8 52), .lit (.int .u8 32), .lit (.int .u8 23), .lit (.int .u8 11), .lit (.int .u8 54), .lit (.int .u8 26), .lit (.int .u8 40), .lit (.int .u8 15), .lit (.int .u8 34), .lit (.int .u8 20), .lit (.int .u8 31), .lit (.int .u8 10), .lit (.int .u8 25), .lit (.int .u8 14), .lit (.int .u8 19), .lit (.int .u8 9), .lit (.int .u8 13), .lit (.int .u8 8), .lit (.int .u8 7), .lit (.int .u8 6)]
def laid_internal_strconv_uint64pow10 {H : Type} : DataW H := .agg [.lit (.int .u64 1), .lit (.int .u64 10), .lit (.int .u64 100), .lit (.int .u64 1000), .lit (.int .u64 10000), .lit (.int .u64 100000), .lit (.int .u64 1000000), .lit (.int .u64 10000000), .lit (.int .u64 100000000), .lit (.int .u64 1000000000), .lit (.int .u64 10000000000), .lit (.int .u64 100000000000), .lit (.int .u64 1000000000000), .lit (.int .u64 10000000000000), .lit (.int .u64 100000000000000), .lit (.int .u64 1000000000000000), .lit (.int .u64 10000000000000000), .lit (.int .u64 100000000000000000), .lit (.int .u64 1000000000000000000), .lit (.int .u64 10000000000000000000)]

/-- 'metronomelaw17.NormalCounts': WHATEVER THE INPUT: true; the input reads as it did. -/
def normalCountsSpec : ChangeSpec := { name := "normalCounts", fn := fun _ => fun
  | [d] => { results := [.lit (.bool true)], args := [d] }
  | _ => none }
def normalCountsRow : OpenClaim := { program := "ytbafhpblecdbbaagreatdoor", sum := "085bbba0f2a0d455d6af780680c95a484b04392bdd3533cfebcfa3353bb1b5d1", func := "metronome/metronomelaw17.NormalCounts", spec := "normalCounts", unfollowed := true, recurses := true, named := ["internal/strconv.uint64pow10", "math/bits.deBruijn32tab", "math/bits.deBruijn64tab"], apart := false, laid := [("math/bits.deBruijn32tab", laid_math_bits_deBruijn32tab), ("math/bits.deBruijn64tab", laid_math_bits_deBruijn64tab), ("internal/strconv.uint64pow10", laid_internal_strconv_uint64pow10)] }
def NormalCountsSaid : Prop := normalCountsRow.holds Tryz.pinned (OpenSpec.ofChange normalCountsSpec)

/-- ITS FALSE NEIGHBOUR: 'it returns false'. Refute it at one input. -/
def normalCountsWrong : ChangeSpec := { name := "normalCounts", fn := fun _ => fun
  | [d] => { results := [.lit (.bool false)], args := [d] }
  | _ => none }
def NormalCountsWrongFalsely : Prop := normalCountsRow.holds Tryz.pinned (OpenSpec.ofChange normalCountsWrong)

/-- 'metronomelaw17.NormalForms': WHATEVER THE INPUT: true; the input reads as it did. -/
def normalFormsSpec : ChangeSpec := { name := "normalForms", fn := fun _ => fun
  | [d] => { results := [.lit (.bool true)], args := [d] }
  | _ => none }
def normalFormsRow : OpenClaim := { program := "ytbafhpblecdbbaagreatdoor", sum := "085bbba0f2a0d455d6af780680c95a484b04392bdd3533cfebcfa3353bb1b5d1", func := "metronome/metronomelaw17.NormalForms", spec := "normalForms", unfollowed := true, recurses := true, named := ["internal/strconv.uint64pow10", "math/bits.deBruijn32tab", "math/bits.deBruijn64tab"], apart := false, laid := [("math/bits.deBruijn32tab", laid_math_bits_deBruijn32tab), ("math/bits.deBruijn64tab", laid_math_bits_deBruijn64tab), ("internal/strconv.uint64pow10", laid_internal_strconv_uint64pow10)] }
def NormalFormsSaid : Prop := normalFormsRow.holds Tryz.pinned (OpenSpec.ofChange normalFormsSpec)

/-- ITS FALSE NEIGHBOUR: 'it returns false'. Refute it at one input. -/
def normalFormsWrong : ChangeSpec := { name := "normalForms", fn := fun _ => fun
  | [d] => { results := [.lit (.bool false)], args := [d] }
  | _ => none }
def NormalFormsWrongFalsely : Prop := normalFormsRow.holds Tryz.pinned (OpenSpec.ofChange normalFormsWrong)

/-- 'metronomelaw17.NormalTypes': WHATEVER THE INPUT: true; the input reads as it did. -/
def normalTypesSpec : ChangeSpec := { name := "normalTypes", fn := fun _ => fun
  | [d1, d2] => { results := [.lit (.bool true)], args := [d1, d2] }
  | _ => none }
def normalTypesRow : OpenClaim := { program := "ytbafhpblecdbbaagreatdoor", sum := "085bbba0f2a0d455d6af780680c95a484b04392bdd3533cfebcfa3353bb1b5d1", func := "metronome/metronomelaw17.NormalTypes", spec := "normalTypes", unfollowed := true, recurses := true, named := ["internal/strconv.uint64pow10", "math/bits.deBruijn32tab", "math/bits.deBruijn64tab"], apart := false, laid := [("math/bits.deBruijn32tab", laid_math_bits_deBruijn32tab), ("math/bits.deBruijn64tab", laid_math_bits_deBruijn64tab), ("internal/strconv.uint64pow10", laid_internal_strconv_uint64pow10)] }
def NormalTypesSaid : Prop := normalTypesRow.holds Tryz.pinned (OpenSpec.ofChange normalTypesSpec)

/-- ITS FALSE NEIGHBOUR: 'it returns false'. Refute it at one input. -/
def normalTypesWrong : ChangeSpec := { name := "normalTypes", fn := fun _ => fun
  | [d1, d2] => { results := [.lit (.bool false)], args := [d1, d2] }
  | _ => none }
def NormalTypesWrongFalsely : Prop := normalTypesRow.holds Tryz.pinned (OpenSpec.ofChange normalTypesWrong)

/-- 'metronomelaw18.TidyCopies': WHATEVER THE INPUT: true; the input reads as it did. -/
def tidyCopiesSpec : ChangeSpec := { name := "tidyCopies", fn := fun _ => fun
  | [d] => { results := [.lit (.bool true)], args := [d] }
  | _ => none }
def tidyCopiesRow : OpenClaim := { program := "ytbafhpblecdbbaagreatdoor", sum := "085bbba0f2a0d455d6af780680c95a484b04392bdd3533cfebcfa3353bb1b5d1", func := "metronome/metronomelaw18.TidyCopies", spec := "tidyCopies", unfollowed := true, recurses := true, named := ["internal/strconv.uint64pow10", "math/bits.deBruijn32tab", "math/bits.deBruijn64tab"], apart := false, laid := [("math/bits.deBruijn32tab", laid_math_bits_deBruijn32tab), ("math/bits.deBruijn64tab", laid_math_bits_deBruijn64tab), ("internal/strconv.uint64pow10", laid_internal_strconv_uint64pow10)] }
def TidyCopiesSaid : Prop := tidyCopiesRow.holds Tryz.pinned (OpenSpec.ofChange tidyCopiesSpec)

/-- ITS FALSE NEIGHBOUR: 'it returns false'. Refute it at one input. -/
def tidyCopiesWrong : ChangeSpec := { name := "tidyCopies", fn := fun _ => fun
  | [d] => { results := [.lit (.bool false)], args := [d] }
  | _ => none }
def TidyCopiesWrongFalsely : Prop := tidyCopiesRow.holds Tryz.pinned (OpenSpec.ofChange tidyCopiesWrong)

/-- 'metronomelaw18.TidyUses': WHATEVER THE INPUT: true; the input reads as it did. -/
def tidyUsesSpec : ChangeSpec := { name := "tidyUses", fn := fun _ => fun
  | [d] => { results := [.lit (.bool true)], args := [d] }
  | _ => none }
def tidyUsesRow : OpenClaim := { program := "ytbafhpblecdbbaagreatdoor", sum := "085bbba0f2a0d455d6af780680c95a484b04392bdd3533cfebcfa3353bb1b5d1", func := "metronome/metronomelaw18.TidyUses", spec := "tidyUses", unfollowed := true, recurses := true, named := ["internal/strconv.uint64pow10", "math/bits.deBruijn32tab", "math/bits.deBruijn64tab"], apart := false, laid := [("math/bits.deBruijn32tab", laid_math_bits_deBruijn32tab), ("math/bits.deBruijn64tab", laid_math_bits_deBruijn64tab), ("internal/strconv.uint64pow10", laid_internal_strconv_uint64pow10)] }
def TidyUsesSaid : Prop := tidyUsesRow.holds Tryz.pinned (OpenSpec.ofChange tidyUsesSpec)

/-- ITS FALSE NEIGHBOUR: 'it returns false'. Refute it at one input. -/
def tidyUsesWrong : ChangeSpec := { name := "tidyUses", fn := fun _ => fun
  | [d] => { results := [.lit (.bool false)], args := [d] }
  | _ => none }
def TidyUsesWrongFalsely : Prop := tidyUsesRow.holds Tryz.pinned (OpenSpec.ofChange tidyUsesWrong)

/-- 'metronomelaw18.TidyDead': WHATEVER THE INPUT: true; the input reads as it did. -/
def tidyDeadSpec : ChangeSpec := { name := "tidyDead", fn := fun _ => fun
  | [d] => { results := [.lit (.bool true)], args := [d] }
  | _ => none }
def tidyDeadRow : OpenClaim := { program := "ytbafhpblecdbbaagreatdoor", sum := "085bbba0f2a0d455d6af780680c95a484b04392bdd3533cfebcfa3353bb1b5d1", func := "metronome/metronomelaw18.TidyDead", spec := "tidyDead", unfollowed := true, recurses := true, named := ["internal/strconv.uint64pow10", "math/bits.deBruijn32tab", "math/bits.deBruijn64tab"], apart := false, laid := [("math/bits.deBruijn32tab", laid_math_bits_deBruijn32tab), ("math/bits.deBruijn64tab", laid_math_bits_deBruijn64tab), ("internal/strconv.uint64pow10", laid_internal_strconv_uint64pow10)] }
def TidyDeadSaid : Prop := tidyDeadRow.holds Tryz.pinned (OpenSpec.ofChange tidyDeadSpec)

/-- ITS FALSE NEIGHBOUR: 'it returns false'. Refute it at one input. -/
def tidyDeadWrong : ChangeSpec := { name := "tidyDead", fn := fun _ => fun
  | [d] => { results := [.lit (.bool false)], args := [d] }
  | _ => none }
def TidyDeadWrongFalsely : Prop := tidyDeadRow.holds Tryz.pinned (OpenSpec.ofChange tidyDeadWrong)

/-- 'metronomelaw18.TidyForms': WHATEVER THE INPUT: true; the input reads as it did. -/
def tidyFormsSpec : ChangeSpec := { name := "tidyForms", fn := fun _ => fun
  | [d] => { results := [.lit (.bool true)], args := [d] }
  | _ => none }
def tidyFormsRow : OpenClaim := { program := "ytbafhpblecdbbaagreatdoor", sum := "085bbba0f2a0d455d6af780680c95a484b04392bdd3533cfebcfa3353bb1b5d1", func := "metronome/metronomelaw18.TidyForms", spec := "tidyForms", unfollowed := true, recurses := true, named := ["internal/strconv.uint64pow10", "math/bits.deBruijn32tab", "math/bits.deBruijn64tab"], apart := false, laid := [("math/bits.deBruijn32tab", laid_math_bits_deBruijn32tab), ("math/bits.deBruijn64tab", laid_math_bits_deBruijn64tab), ("internal/strconv.uint64pow10", laid_internal_strconv_uint64pow10)] }
def TidyFormsSaid : Prop := tidyFormsRow.holds Tryz.pinned (OpenSpec.ofChange tidyFormsSpec)

/-- ITS FALSE NEIGHBOUR: 'it returns false'. Refute it at one input. -/
def tidyFormsWrong : ChangeSpec := { name := "tidyForms", fn := fun _ => fun
  | [d] => { results := [.lit (.bool false)], args := [d] }
  | _ => none }
def TidyFormsWrongFalsely : Prop := tidyFormsRow.holds Tryz.pinned (OpenSpec.ofChange tidyFormsWrong)

/-- 'metronomelaw14.DeswitchCounts': WHATEVER THE INPUT: true; the input reads as it did. -/
def deswitchCountsSpec : ChangeSpec := { name := "deswitchCounts", fn := fun _ => fun
  | [d] => { results := [.lit (.bool true)], args := [d] }
  | _ => none }
def deswitchCountsRow : OpenClaim := { program := "ytbafhpblecdbbaagreatdoor", sum := "085bbba0f2a0d455d6af780680c95a484b04392bdd3533cfebcfa3353bb1b5d1", func := "metronome/metronomelaw14.DeswitchCounts", spec := "deswitchCounts", unfollowed := true, recurses := true, named := ["internal/strconv.uint64pow10", "math/bits.deBruijn32tab", "math/bits.deBruijn64tab"], apart := false, laid := [("math/bits.deBruijn32tab", laid_math_bits_deBruijn32tab), ("math/bits.deBruijn64tab", laid_math_bits_deBruijn64tab), ("internal/strconv.uint64pow10", laid_internal_strconv_uint64pow10)] }
def DeswitchCountsSaid : Prop := deswitchCountsRow.holds Tryz.pinned (OpenSpec.ofChange deswitchCountsSpec)

/-- ITS FALSE NEIGHBOUR: 'it returns false'. Refute it at one input. -/
def deswitchCountsWrong : ChangeSpec := { name := "deswitchCounts", fn := fun _ => fun
  | [d] => { results := [.lit (.bool false)], args := [d] }
  | _ => none }
def DeswitchCountsWrongFalsely : Prop := deswitchCountsRow.holds Tryz.pinned (OpenSpec.ofChange deswitchCountsWrong)

/-- 'metronomelaw17.NormalMeans': WHATEVER THE INPUT: true; the input reads as it did. -/
def normalMeansSpec : ChangeSpec := { name := "normalMeans", fn := fun _ => fun
  | [d1, d2] => { results := [.lit (.bool true)], args := [d1, d2] }
  | _ => none }
def normalMeansRow : OpenClaim := { program := "ytbafhpblecdbbaagreatdoor", sum := "085bbba0f2a0d455d6af780680c95a484b04392bdd3533cfebcfa3353bb1b5d1", func := "metronome/metronomelaw17.NormalMeans", spec := "normalMeans", unfollowed := true, recurses := true, named := ["internal/strconv.uint64pow10", "math/bits.deBruijn32tab", "math/bits.deBruijn64tab"], apart := false, laid := [("math/bits.deBruijn32tab", laid_math_bits_deBruijn32tab), ("math/bits.deBruijn64tab", laid_math_bits_deBruijn64tab), ("internal/strconv.uint64pow10", laid_internal_strconv_uint64pow10)] }
def NormalMeansSaid : Prop := normalMeansRow.holds Tryz.pinned (OpenSpec.ofChange normalMeansSpec)

/-- ITS FALSE NEIGHBOUR: 'it returns false'. Refute it at one input. -/
def normalMeansWrong : ChangeSpec := { name := "normalMeans", fn := fun _ => fun
  | [d1, d2] => { results := [.lit (.bool false)], args := [d1, d2] }
  | _ => none }
def NormalMeansWrongFalsely : Prop := normalMeansRow.holds Tryz.pinned (OpenSpec.ofChange normalMeansWrong)

/-- 'metronomelaw19.GraphNeeds': WHATEVER THE INPUT: true; the input reads as it did. -/
def graphNeedsSpec : ChangeSpec := { name := "graphNeeds", fn := fun _ => fun
  | [d] => { results := [.lit (.bool true)], args := [d] }
  | _ => none }
def graphNeedsRow : OpenClaim := { program := "ytbafhpblecdbbaagreatdoor", sum := "085bbba0f2a0d455d6af780680c95a484b04392bdd3533cfebcfa3353bb1b5d1", func := "metronome/metronomelaw19.GraphNeeds", spec := "graphNeeds", unfollowed := true, recurses := true, named := ["internal/strconv.uint64pow10", "math/bits.deBruijn32tab", "math/bits.deBruijn64tab"], apart := false, laid := [("math/bits.deBruijn32tab", laid_math_bits_deBruijn32tab), ("math/bits.deBruijn64tab", laid_math_bits_deBruijn64tab), ("internal/strconv.uint64pow10", laid_internal_strconv_uint64pow10)] }
def GraphNeedsSaid : Prop := graphNeedsRow.holds Tryz.pinned (OpenSpec.ofChange graphNeedsSpec)

/-- ITS FALSE NEIGHBOUR: 'it returns false'. Refute it at one input. -/
def graphNeedsWrong : ChangeSpec := { name := "graphNeeds", fn := fun _ => fun
  | [d] => { results := [.lit (.bool false)], args := [d] }
  | _ => none }
def GraphNeedsWrongFalsely : Prop := graphNeedsRow.holds Tryz.pinned (OpenSpec.ofChange graphNeedsWrong)

/-- 'metronomelaw19.GraphPrograms': WHATEVER THE INPUT: true; the input reads as it did. -/
def graphProgramsSpec : ChangeSpec := { name := "graphPrograms", fn := fun _ => fun
  | [d] => { results := [.lit (.bool true)], args := [d] }
  | _ => none }
def graphProgramsRow : OpenClaim := { program := "ytbafhpblecdbbaagreatdoor", sum := "085bbba0f2a0d455d6af780680c95a484b04392bdd3533cfebcfa3353bb1b5d1", func := "metronome/metronomelaw19.GraphPrograms", spec := "graphPrograms", unfollowed := true, recurses := true, named := ["internal/strconv.uint64pow10", "math/bits.deBruijn32tab", "math/bits.deBruijn64tab"], apart := false, laid := [("math/bits.deBruijn32tab", laid_math_bits_deBruijn32tab), ("math/bits.deBruijn64tab", laid_math_bits_deBruijn64tab), ("internal/strconv.uint64pow10", laid_internal_strconv_uint64pow10)] }
def GraphProgramsSaid : Prop := graphProgramsRow.holds Tryz.pinned (OpenSpec.ofChange graphProgramsSpec)

/-- ITS FALSE NEIGHBOUR: 'it returns false'. Refute it at one input. -/
def graphProgramsWrong : ChangeSpec := { name := "graphPrograms", fn := fun _ => fun
  | [d] => { results := [.lit (.bool false)], args := [d] }
  | _ => none }
def GraphProgramsWrongFalsely : Prop := graphProgramsRow.holds Tryz.pinned (OpenSpec.ofChange graphProgramsWrong)

/-- 'metronomelaw18.TidyMeans': WHATEVER THE INPUT: true; the input reads as it did. -/
def tidyMeansSpec : ChangeSpec := { name := "tidyMeans", fn := fun _ => fun
  | [d1, d2, d3, d4] => { results := [.lit (.bool true)], args := [d1, d2, d3, d4] }
  | _ => none }
def tidyMeansRow : OpenClaim := { program := "ytbafhpblecdbbaagreatdoor", sum := "085bbba0f2a0d455d6af780680c95a484b04392bdd3533cfebcfa3353bb1b5d1", func := "metronome/metronomelaw18.TidyMeans", spec := "tidyMeans", unfollowed := true, recurses := true, named := ["internal/strconv.uint64pow10", "math/bits.deBruijn32tab", "math/bits.deBruijn64tab"], apart := false, laid := [("math/bits.deBruijn32tab", laid_math_bits_deBruijn32tab), ("math/bits.deBruijn64tab", laid_math_bits_deBruijn64tab), ("internal/strconv.uint64pow10", laid_internal_strconv_uint64pow10)] }
def TidyMeansSaid : Prop := tidyMeansRow.holds Tryz.pinned (OpenSpec.ofChange tidyMeansSpec)

/-- ITS FALSE NEIGHBOUR: 'it returns false'. Refute it at one input. -/
def tidyMeansWrong : ChangeSpec := { name := "tidyMeans", fn := fun _ => fun
  | [d1, d2, d3, d4] => { results := [.lit (.bool false)], args := [d1, d2, d3, d4] }
  | _ => none }
def TidyMeansWrongFalsely : Prop := tidyMeansRow.holds Tryz.pinned (OpenSpec.ofChange tidyMeansWrong)

/- THE SECOND FORM. 'bulk': how many values and letters a reading holds, each counted each time it is reached (what is shared counts as often as it is met; a slice's spare places count too). A statement '..UptoSaid' is the law's where the arguments, and the package variables that the reading takes, are together of bulk at most 1048576: NARROWER than '..Said'. Prove '..Said' where nothing that the law and all that it calls make is longer than what came in: it says more and counts as full. Else prove '..UptoSaid'. A law counts once. -/
mutual
def uptoBulk {H : Type} : DataW H → Nat
  | .lit (.string bytes) => bytes.length + 1
  | .lit _ => 1
  | .nil => 1
  | .ptr d => uptoBulk d + 1
  | .slice elems spare => uptoBulkAll elems + uptoBulkAll spare + 1
  | .agg parts => uptoBulkAll parts + 1
  | .iface _ d => uptoBulk d + 1
  | .map entries => uptoBulkEntries entries + 1
  | .held _ => 1
def uptoBulkAll {H : Type} : List (DataW H) → Nat
  | [] => 0
  | d :: r => uptoBulk d + uptoBulkAll r
def uptoBulkEntries {H : Type} : List (Lit × DataW H) → Nat
  | [] => 0
  | x :: r => uptoBulkEntry x + uptoBulkEntries r
def uptoBulkEntry {H : Type} : Lit × DataW H → Nat
  | (.string bytes, d) => bytes.length + uptoBulk d + 1
  | (_, d) => uptoBulk d + 1
 end
def uptoSmall : (H : Type) → List (DataW H) → Bool := fun _ ds => decide (uptoBulkAll ds ≤ 1048576)
def OpenSpec.upto (s : _root_.Go.ChangeSpec) : _root_.Go.OpenSpec := { _root_.Go.OpenSpec.ofChange s with cond := some uptoSmall }

/-- 'metronomelaw17.NormalCounts', WHERE WHAT IT READS IS OF BULK AT MOST 1048576: true; the input reads as it did. -/
def normalCountsUptoRow : OpenClaim := { program := "ytbafhpblecdbbaagreatdoor", sum := "085bbba0f2a0d455d6af780680c95a484b04392bdd3533cfebcfa3353bb1b5d1", func := "metronome/metronomelaw17.NormalCounts", spec := "normalCounts", unfollowed := true, recurses := true, named := ["internal/strconv.uint64pow10", "math/bits.deBruijn32tab", "math/bits.deBruijn64tab"], apart := false, laid := [("math/bits.deBruijn32tab", laid_math_bits_deBruijn32tab), ("math/bits.deBruijn64tab", laid_math_bits_deBruijn64tab), ("internal/strconv.uint64pow10", laid_internal_strconv_uint64pow10)], narrowed := true }
def NormalCountsUptoSaid : Prop := normalCountsUptoRow.holds Tryz.pinned (OpenSpec.upto normalCountsSpec)

/-- 'metronomelaw17.NormalForms', WHERE WHAT IT READS IS OF BULK AT MOST 1048576: true; the input reads as it did. -/
def normalFormsUptoRow : OpenClaim := { program := "ytbafhpblecdbbaagreatdoor", sum := "085bbba0f2a0d455d6af780680c95a484b04392bdd3533cfebcfa3353bb1b5d1", func := "metronome/metronomelaw17.NormalForms", spec := "normalForms", unfollowed := true, recurses := true, named := ["internal/strconv.uint64pow10", "math/bits.deBruijn32tab", "math/bits.deBruijn64tab"], apart := false, laid := [("math/bits.deBruijn32tab", laid_math_bits_deBruijn32tab), ("math/bits.deBruijn64tab", laid_math_bits_deBruijn64tab), ("internal/strconv.uint64pow10", laid_internal_strconv_uint64pow10)], narrowed := true }
def NormalFormsUptoSaid : Prop := normalFormsUptoRow.holds Tryz.pinned (OpenSpec.upto normalFormsSpec)

/-- 'metronomelaw17.NormalTypes', WHERE WHAT IT READS IS OF BULK AT MOST 1048576: true; the input reads as it did. -/
def normalTypesUptoRow : OpenClaim := { program := "ytbafhpblecdbbaagreatdoor", sum := "085bbba0f2a0d455d6af780680c95a484b04392bdd3533cfebcfa3353bb1b5d1", func := "metronome/metronomelaw17.NormalTypes", spec := "normalTypes", unfollowed := true, recurses := true, named := ["internal/strconv.uint64pow10", "math/bits.deBruijn32tab", "math/bits.deBruijn64tab"], apart := false, laid := [("math/bits.deBruijn32tab", laid_math_bits_deBruijn32tab), ("math/bits.deBruijn64tab", laid_math_bits_deBruijn64tab), ("internal/strconv.uint64pow10", laid_internal_strconv_uint64pow10)], narrowed := true }
def NormalTypesUptoSaid : Prop := normalTypesUptoRow.holds Tryz.pinned (OpenSpec.upto normalTypesSpec)

/-- 'metronomelaw18.TidyCopies', WHERE WHAT IT READS IS OF BULK AT MOST 1048576: true; the input reads as it did. -/
def tidyCopiesUptoRow : OpenClaim := { program := "ytbafhpblecdbbaagreatdoor", sum := "085bbba0f2a0d455d6af780680c95a484b04392bdd3533cfebcfa3353bb1b5d1", func := "metronome/metronomelaw18.TidyCopies", spec := "tidyCopies", unfollowed := true, recurses := true, named := ["internal/strconv.uint64pow10", "math/bits.deBruijn32tab", "math/bits.deBruijn64tab"], apart := false, laid := [("math/bits.deBruijn32tab", laid_math_bits_deBruijn32tab), ("math/bits.deBruijn64tab", laid_math_bits_deBruijn64tab), ("internal/strconv.uint64pow10", laid_internal_strconv_uint64pow10)], narrowed := true }
def TidyCopiesUptoSaid : Prop := tidyCopiesUptoRow.holds Tryz.pinned (OpenSpec.upto tidyCopiesSpec)

/-- 'metronomelaw18.TidyUses', WHERE WHAT IT READS IS OF BULK AT MOST 1048576: true; the input reads as it did. -/
def tidyUsesUptoRow : OpenClaim := { program := "ytbafhpblecdbbaagreatdoor", sum := "085bbba0f2a0d455d6af780680c95a484b04392bdd3533cfebcfa3353bb1b5d1", func := "metronome/metronomelaw18.TidyUses", spec := "tidyUses", unfollowed := true, recurses := true, named := ["internal/strconv.uint64pow10", "math/bits.deBruijn32tab", "math/bits.deBruijn64tab"], apart := false, laid := [("math/bits.deBruijn32tab", laid_math_bits_deBruijn32tab), ("math/bits.deBruijn64tab", laid_math_bits_deBruijn64tab), ("internal/strconv.uint64pow10", laid_internal_strconv_uint64pow10)], narrowed := true }
def TidyUsesUptoSaid : Prop := tidyUsesUptoRow.holds Tryz.pinned (OpenSpec.upto tidyUsesSpec)

/-- 'metronomelaw18.TidyDead', WHERE WHAT IT READS IS OF BULK AT MOST 1048576: true; the input reads as it did. -/
def tidyDeadUptoRow : OpenClaim := { program := "ytbafhpblecdbbaagreatdoor", sum := "085bbba0f2a0d455d6af780680c95a484b04392bdd3533cfebcfa3353bb1b5d1", func := "metronome/metronomelaw18.TidyDead", spec := "tidyDead", unfollowed := true, recurses := true, named := ["internal/strconv.uint64pow10", "math/bits.deBruijn32tab", "math/bits.deBruijn64tab"], apart := false, laid := [("math/bits.deBruijn32tab", laid_math_bits_deBruijn32tab), ("math/bits.deBruijn64tab", laid_math_bits_deBruijn64tab), ("internal/strconv.uint64pow10", laid_internal_strconv_uint64pow10)], narrowed := true }
def TidyDeadUptoSaid : Prop := tidyDeadUptoRow.holds Tryz.pinned (OpenSpec.upto tidyDeadSpec)

/-- 'metronomelaw18.TidyForms', WHERE WHAT IT READS IS OF BULK AT MOST 1048576: true; the input reads as it did. -/
def tidyFormsUptoRow : OpenClaim := { program := "ytbafhpblecdbbaagreatdoor", sum := "085bbba0f2a0d455d6af780680c95a484b04392bdd3533cfebcfa3353bb1b5d1", func := "metronome/metronomelaw18.TidyForms", spec := "tidyForms", unfollowed := true, recurses := true, named := ["internal/strconv.uint64pow10", "math/bits.deBruijn32tab", "math/bits.deBruijn64tab"], apart := false, laid := [("math/bits.deBruijn32tab", laid_math_bits_deBruijn32tab), ("math/bits.deBruijn64tab", laid_math_bits_deBruijn64tab), ("internal/strconv.uint64pow10", laid_internal_strconv_uint64pow10)], narrowed := true }
def TidyFormsUptoSaid : Prop := tidyFormsUptoRow.holds Tryz.pinned (OpenSpec.upto tidyFormsSpec)

/-- 'metronomelaw14.DeswitchCounts', WHERE WHAT IT READS IS OF BULK AT MOST 1048576: true; the input reads as it did. -/
def deswitchCountsUptoRow : OpenClaim := { program := "ytbafhpblecdbbaagreatdoor", sum := "085bbba0f2a0d455d6af780680c95a484b04392bdd3533cfebcfa3353bb1b5d1", func := "metronome/metronomelaw14.DeswitchCounts", spec := "deswitchCounts", unfollowed := true, recurses := true, named := ["internal/strconv.uint64pow10", "math/bits.deBruijn32tab", "math/bits.deBruijn64tab"], apart := false, laid := [("math/bits.deBruijn32tab", laid_math_bits_deBruijn32tab), ("math/bits.deBruijn64tab", laid_math_bits_deBruijn64tab), ("internal/strconv.uint64pow10", laid_internal_strconv_uint64pow10)], narrowed := true }
def DeswitchCountsUptoSaid : Prop := deswitchCountsUptoRow.holds Tryz.pinned (OpenSpec.upto deswitchCountsSpec)

/-- 'metronomelaw17.NormalMeans', WHERE WHAT IT READS IS OF BULK AT MOST 1048576: true; the input reads as it did. -/
def normalMeansUptoRow : OpenClaim := { program := "ytbafhpblecdbbaagreatdoor", sum := "085bbba0f2a0d455d6af780680c95a484b04392bdd3533cfebcfa3353bb1b5d1", func := "metronome/metronomelaw17.NormalMeans", spec := "normalMeans", unfollowed := true, recurses := true, named := ["internal/strconv.uint64pow10", "math/bits.deBruijn32tab", "math/bits.deBruijn64tab"], apart := false, laid := [("math/bits.deBruijn32tab", laid_math_bits_deBruijn32tab), ("math/bits.deBruijn64tab", laid_math_bits_deBruijn64tab), ("internal/strconv.uint64pow10", laid_internal_strconv_uint64pow10)], narrowed := true }
def NormalMeansUptoSaid : Prop := normalMeansUptoRow.holds Tryz.pinned (OpenSpec.upto normalMeansSpec)

/-- 'metronomelaw19.GraphNeeds', WHERE WHAT IT READS IS OF BULK AT MOST 1048576: true; the input reads as it did. -/
def graphNeedsUptoRow : OpenClaim := { program := "ytbafhpblecdbbaagreatdoor", sum := "085bbba0f2a0d455d6af780680c95a484b04392bdd3533cfebcfa3353bb1b5d1", func := "metronome/metronomelaw19.GraphNeeds", spec := "graphNeeds", unfollowed := true, recurses := true, named := ["internal/strconv.uint64pow10", "math/bits.deBruijn32tab", "math/bits.deBruijn64tab"], apart := false, laid := [("math/bits.deBruijn32tab", laid_math_bits_deBruijn32tab), ("math/bits.deBruijn64tab", laid_math_bits_deBruijn64tab), ("internal/strconv.uint64pow10", laid_internal_strconv_uint64pow10)], narrowed := true }
def GraphNeedsUptoSaid : Prop := graphNeedsUptoRow.holds Tryz.pinned (OpenSpec.upto graphNeedsSpec)

/-- 'metronomelaw19.GraphPrograms', WHERE WHAT IT READS IS OF BULK AT MOST 1048576: true; the input reads as it did. -/
def graphProgramsUptoRow : OpenClaim := { program := "ytbafhpblecdbbaagreatdoor", sum := "085bbba0f2a0d455d6af780680c95a484b04392bdd3533cfebcfa3353bb1b5d1", func := "metronome/metronomelaw19.GraphPrograms", spec := "graphPrograms", unfollowed := true, recurses := true, named := ["internal/strconv.uint64pow10", "math/bits.deBruijn32tab", "math/bits.deBruijn64tab"], apart := false, laid := [("math/bits.deBruijn32tab", laid_math_bits_deBruijn32tab), ("math/bits.deBruijn64tab", laid_math_bits_deBruijn64tab), ("internal/strconv.uint64pow10", laid_internal_strconv_uint64pow10)], narrowed := true }
def GraphProgramsUptoSaid : Prop := graphProgramsUptoRow.holds Tryz.pinned (OpenSpec.upto graphProgramsSpec)

/-- 'metronomelaw18.TidyMeans', WHERE WHAT IT READS IS OF BULK AT MOST 1048576: true; the input reads as it did. -/
def tidyMeansUptoRow : OpenClaim := { program := "ytbafhpblecdbbaagreatdoor", sum := "085bbba0f2a0d455d6af780680c95a484b04392bdd3533cfebcfa3353bb1b5d1", func := "metronome/metronomelaw18.TidyMeans", spec := "tidyMeans", unfollowed := true, recurses := true, named := ["internal/strconv.uint64pow10", "math/bits.deBruijn32tab", "math/bits.deBruijn64tab"], apart := false, laid := [("math/bits.deBruijn32tab", laid_math_bits_deBruijn32tab), ("math/bits.deBruijn64tab", laid_math_bits_deBruijn64tab), ("internal/strconv.uint64pow10", laid_internal_strconv_uint64pow10)], narrowed := true }
def TidyMeansUptoSaid : Prop := tidyMeansUptoRow.holds Tryz.pinned (OpenSpec.upto tidyMeansSpec)

end Rows
end Go.Proofs.YtbafhpblecdbbaaGreatDoor
