/-
  DERIVED. GIVEN WITH THE SEED: THE CARDS: each row of YtbafhpblecdbbaaGreatDoorRows.lean that lists a variable, with what it lists TIED to the program's text (the seventh form; the later family's looks); each row that meets fmt, with fmt's text TOLD by the authors' own Lean function (tested against real Go, not proved from fmt's source: count such statements apart). THE CARD IS WHAT COUNTS. Prove the row's statement (the work); the ties are given (YtbafhpblecdbbaaGreatDoorTie.lean); close each card by the builder's one call (the guide's Derived/Test/ToyasCard.lean, 'card_holds'). Laid BY PROGRAM, IN A SANDBOX (cutbox-door.mjs). By AI agents, Wed Nov 11 2026. No macro, syntax, notation, axiom, sorry.
-/
import Derived.Test.YtbafhpblecdbbaaGreatDoorRows
import GoSem.ClaimSeven
namespace Go.Proofs.YtbafhpblecdbbaaGreatDoor
namespace Rows

/-- THE TIED CARD OF 'metronomelaw17.NormalCounts'. -/
def normalCountsCard : Claim7 := { stood := { row := normalCountsRow, standIns := [], harness := (true, "f50347e73aaa9d340bc349c5a52e56f4bb5d0113295c3e190f190ebf72de17ac"), looks := true }, kinds := [], alts := [], laidByText := true, laidKinds := [.data, .data, .data], laidTests := true, laidLooks := .later }
def NormalCountsCardSaid : Prop := Claim7.holds Tryz.pinned (.plain (OpenSpec.ofChange normalCountsSpec)) normalCountsCard

/-- THE TIED CARD OF 'metronomelaw17.NormalForms'. -/
def normalFormsCard : Claim7 := { stood := { row := normalFormsRow, standIns := [], harness := (true, "f50347e73aaa9d340bc349c5a52e56f4bb5d0113295c3e190f190ebf72de17ac"), looks := true }, kinds := [], alts := [], laidByText := true, laidKinds := [.data, .data, .data], laidTests := true, laidLooks := .later }
def NormalFormsCardSaid : Prop := Claim7.holds Tryz.pinned (.plain (OpenSpec.ofChange normalFormsSpec)) normalFormsCard

/-- THE TIED CARD OF 'metronomelaw17.NormalTypes'. -/
def normalTypesCard : Claim7 := { stood := { row := normalTypesRow, standIns := [], harness := (true, "f50347e73aaa9d340bc349c5a52e56f4bb5d0113295c3e190f190ebf72de17ac"), looks := true }, kinds := [], alts := [], laidByText := true, laidKinds := [.data, .data, .data], laidTests := true, laidLooks := .later }
def NormalTypesCardSaid : Prop := Claim7.holds Tryz.pinned (.plain (OpenSpec.ofChange normalTypesSpec)) normalTypesCard

/-- THE TIED CARD OF 'metronomelaw18.TidyCopies'. -/
def tidyCopiesCard : Claim7 := { stood := { row := tidyCopiesRow, standIns := [], harness := (true, "f50347e73aaa9d340bc349c5a52e56f4bb5d0113295c3e190f190ebf72de17ac"), looks := true }, kinds := [], alts := [], laidByText := true, laidKinds := [.data, .data, .data], laidTests := true, laidLooks := .later }
def TidyCopiesCardSaid : Prop := Claim7.holds Tryz.pinned (.plain (OpenSpec.ofChange tidyCopiesSpec)) tidyCopiesCard

/-- THE TIED CARD OF 'metronomelaw18.TidyUses'. -/
def tidyUsesCard : Claim7 := { stood := { row := tidyUsesRow, standIns := [], harness := (true, "f50347e73aaa9d340bc349c5a52e56f4bb5d0113295c3e190f190ebf72de17ac"), looks := true }, kinds := [], alts := [], laidByText := true, laidKinds := [.data, .data, .data], laidTests := true, laidLooks := .later }
def TidyUsesCardSaid : Prop := Claim7.holds Tryz.pinned (.plain (OpenSpec.ofChange tidyUsesSpec)) tidyUsesCard

/-- THE TIED CARD OF 'metronomelaw18.TidyDead'. -/
def tidyDeadCard : Claim7 := { stood := { row := tidyDeadRow, standIns := [], harness := (true, "f50347e73aaa9d340bc349c5a52e56f4bb5d0113295c3e190f190ebf72de17ac"), looks := true }, kinds := [], alts := [], laidByText := true, laidKinds := [.data, .data, .data], laidTests := true, laidLooks := .later }
def TidyDeadCardSaid : Prop := Claim7.holds Tryz.pinned (.plain (OpenSpec.ofChange tidyDeadSpec)) tidyDeadCard

/-- THE TIED CARD OF 'metronomelaw18.TidyForms'. -/
def tidyFormsCard : Claim7 := { stood := { row := tidyFormsRow, standIns := [], harness := (true, "f50347e73aaa9d340bc349c5a52e56f4bb5d0113295c3e190f190ebf72de17ac"), looks := true }, kinds := [], alts := [], laidByText := true, laidKinds := [.data, .data, .data], laidTests := true, laidLooks := .later }
def TidyFormsCardSaid : Prop := Claim7.holds Tryz.pinned (.plain (OpenSpec.ofChange tidyFormsSpec)) tidyFormsCard

/-- THE TIED CARD OF 'metronomelaw14.DeswitchCounts'. -/
def deswitchCountsCard : Claim7 := { stood := { row := deswitchCountsRow, standIns := [], harness := (true, "f50347e73aaa9d340bc349c5a52e56f4bb5d0113295c3e190f190ebf72de17ac"), looks := true }, kinds := [], alts := [], laidByText := true, laidKinds := [.data, .data, .data], laidTests := true, laidLooks := .later }
def DeswitchCountsCardSaid : Prop := Claim7.holds Tryz.pinned (.plain (OpenSpec.ofChange deswitchCountsSpec)) deswitchCountsCard

/-- THE TIED CARD OF 'metronomelaw17.NormalMeans'. -/
def normalMeansCard : Claim7 := { stood := { row := normalMeansRow, standIns := [], harness := (true, "f50347e73aaa9d340bc349c5a52e56f4bb5d0113295c3e190f190ebf72de17ac"), looks := true }, kinds := [], alts := [], laidByText := true, laidKinds := [.data, .data, .data], laidTests := true, laidLooks := .later }
def NormalMeansCardSaid : Prop := Claim7.holds Tryz.pinned (.plain (OpenSpec.ofChange normalMeansSpec)) normalMeansCard

/-- THE TIED CARD OF 'metronomelaw19.GraphNeeds'. -/
def graphNeedsCard : Claim7 := { stood := { row := graphNeedsRow, standIns := [], harness := (true, "f50347e73aaa9d340bc349c5a52e56f4bb5d0113295c3e190f190ebf72de17ac"), looks := true }, kinds := [], alts := [], laidByText := true, laidKinds := [.data, .data, .data], laidTests := true, laidLooks := .later }
def GraphNeedsCardSaid : Prop := Claim7.holds Tryz.pinned (.plain (OpenSpec.ofChange graphNeedsSpec)) graphNeedsCard

/-- THE TIED CARD OF 'metronomelaw19.GraphPrograms'. -/
def graphProgramsCard : Claim7 := { stood := { row := graphProgramsRow, standIns := [], harness := (true, "f50347e73aaa9d340bc349c5a52e56f4bb5d0113295c3e190f190ebf72de17ac"), looks := true }, kinds := [], alts := [], laidByText := true, laidKinds := [.data, .data, .data], laidTests := true, laidLooks := .later }
def GraphProgramsCardSaid : Prop := Claim7.holds Tryz.pinned (.plain (OpenSpec.ofChange graphProgramsSpec)) graphProgramsCard

/-- THE TIED CARD OF 'metronomelaw18.TidyMeans'. -/
def tidyMeansCard : Claim7 := { stood := { row := tidyMeansRow, standIns := [], harness := (true, "f50347e73aaa9d340bc349c5a52e56f4bb5d0113295c3e190f190ebf72de17ac"), looks := true }, kinds := [], alts := [], laidByText := true, laidKinds := [.data, .data, .data], laidTests := true, laidLooks := .later }
def TidyMeansCardSaid : Prop := Claim7.holds Tryz.pinned (.plain (OpenSpec.ofChange tidyMeansSpec)) tidyMeansCard

/-- THE SECOND FORM's CARD OF 'metronomelaw17.NormalCounts'. -/
def normalCountsUptoCard : Claim7 := { stood := { row := normalCountsUptoRow, standIns := [], harness := (true, "f50347e73aaa9d340bc349c5a52e56f4bb5d0113295c3e190f190ebf72de17ac"), looks := true }, kinds := [], alts := [], laidByText := true, laidKinds := [.data, .data, .data], laidTests := true, laidLooks := .later }
def NormalCountsUptoCardSaid : Prop := Claim7.holds Tryz.pinned (.plain (OpenSpec.upto normalCountsSpec)) normalCountsUptoCard

/-- THE SECOND FORM's CARD OF 'metronomelaw17.NormalForms'. -/
def normalFormsUptoCard : Claim7 := { stood := { row := normalFormsUptoRow, standIns := [], harness := (true, "f50347e73aaa9d340bc349c5a52e56f4bb5d0113295c3e190f190ebf72de17ac"), looks := true }, kinds := [], alts := [], laidByText := true, laidKinds := [.data, .data, .data], laidTests := true, laidLooks := .later }
def NormalFormsUptoCardSaid : Prop := Claim7.holds Tryz.pinned (.plain (OpenSpec.upto normalFormsSpec)) normalFormsUptoCard

/-- THE SECOND FORM's CARD OF 'metronomelaw17.NormalTypes'. -/
def normalTypesUptoCard : Claim7 := { stood := { row := normalTypesUptoRow, standIns := [], harness := (true, "f50347e73aaa9d340bc349c5a52e56f4bb5d0113295c3e190f190ebf72de17ac"), looks := true }, kinds := [], alts := [], laidByText := true, laidKinds := [.data, .data, .data], laidTests := true, laidLooks := .later }
def NormalTypesUptoCardSaid : Prop := Claim7.holds Tryz.pinned (.plain (OpenSpec.upto normalTypesSpec)) normalTypesUptoCard

/-- THE SECOND FORM's CARD OF 'metronomelaw18.TidyCopies'. -/
def tidyCopiesUptoCard : Claim7 := { stood := { row := tidyCopiesUptoRow, standIns := [], harness := (true, "f50347e73aaa9d340bc349c5a52e56f4bb5d0113295c3e190f190ebf72de17ac"), looks := true }, kinds := [], alts := [], laidByText := true, laidKinds := [.data, .data, .data], laidTests := true, laidLooks := .later }
def TidyCopiesUptoCardSaid : Prop := Claim7.holds Tryz.pinned (.plain (OpenSpec.upto tidyCopiesSpec)) tidyCopiesUptoCard

/-- THE SECOND FORM's CARD OF 'metronomelaw18.TidyUses'. -/
def tidyUsesUptoCard : Claim7 := { stood := { row := tidyUsesUptoRow, standIns := [], harness := (true, "f50347e73aaa9d340bc349c5a52e56f4bb5d0113295c3e190f190ebf72de17ac"), looks := true }, kinds := [], alts := [], laidByText := true, laidKinds := [.data, .data, .data], laidTests := true, laidLooks := .later }
def TidyUsesUptoCardSaid : Prop := Claim7.holds Tryz.pinned (.plain (OpenSpec.upto tidyUsesSpec)) tidyUsesUptoCard

/-- THE SECOND FORM's CARD OF 'metronomelaw18.TidyDead'. -/
def tidyDeadUptoCard : Claim7 := { stood := { row := tidyDeadUptoRow, standIns := [], harness := (true, "f50347e73aaa9d340bc349c5a52e56f4bb5d0113295c3e190f190ebf72de17ac"), looks := true }, kinds := [], alts := [], laidByText := true, laidKinds := [.data, .data, .data], laidTests := true, laidLooks := .later }
def TidyDeadUptoCardSaid : Prop := Claim7.holds Tryz.pinned (.plain (OpenSpec.upto tidyDeadSpec)) tidyDeadUptoCard

/-- THE SECOND FORM's CARD OF 'metronomelaw18.TidyForms'. -/
def tidyFormsUptoCard : Claim7 := { stood := { row := tidyFormsUptoRow, standIns := [], harness := (true, "f50347e73aaa9d340bc349c5a52e56f4bb5d0113295c3e190f190ebf72de17ac"), looks := true }, kinds := [], alts := [], laidByText := true, laidKinds := [.data, .data, .data], laidTests := true, laidLooks := .later }
def TidyFormsUptoCardSaid : Prop := Claim7.holds Tryz.pinned (.plain (OpenSpec.upto tidyFormsSpec)) tidyFormsUptoCard

/-- THE SECOND FORM's CARD OF 'metronomelaw14.DeswitchCounts'. -/
def deswitchCountsUptoCard : Claim7 := { stood := { row := deswitchCountsUptoRow, standIns := [], harness := (true, "f50347e73aaa9d340bc349c5a52e56f4bb5d0113295c3e190f190ebf72de17ac"), looks := true }, kinds := [], alts := [], laidByText := true, laidKinds := [.data, .data, .data], laidTests := true, laidLooks := .later }
def DeswitchCountsUptoCardSaid : Prop := Claim7.holds Tryz.pinned (.plain (OpenSpec.upto deswitchCountsSpec)) deswitchCountsUptoCard

/-- THE SECOND FORM's CARD OF 'metronomelaw17.NormalMeans'. -/
def normalMeansUptoCard : Claim7 := { stood := { row := normalMeansUptoRow, standIns := [], harness := (true, "f50347e73aaa9d340bc349c5a52e56f4bb5d0113295c3e190f190ebf72de17ac"), looks := true }, kinds := [], alts := [], laidByText := true, laidKinds := [.data, .data, .data], laidTests := true, laidLooks := .later }
def NormalMeansUptoCardSaid : Prop := Claim7.holds Tryz.pinned (.plain (OpenSpec.upto normalMeansSpec)) normalMeansUptoCard

/-- THE SECOND FORM's CARD OF 'metronomelaw19.GraphNeeds'. -/
def graphNeedsUptoCard : Claim7 := { stood := { row := graphNeedsUptoRow, standIns := [], harness := (true, "f50347e73aaa9d340bc349c5a52e56f4bb5d0113295c3e190f190ebf72de17ac"), looks := true }, kinds := [], alts := [], laidByText := true, laidKinds := [.data, .data, .data], laidTests := true, laidLooks := .later }
def GraphNeedsUptoCardSaid : Prop := Claim7.holds Tryz.pinned (.plain (OpenSpec.upto graphNeedsSpec)) graphNeedsUptoCard

/-- THE SECOND FORM's CARD OF 'metronomelaw19.GraphPrograms'. -/
def graphProgramsUptoCard : Claim7 := { stood := { row := graphProgramsUptoRow, standIns := [], harness := (true, "f50347e73aaa9d340bc349c5a52e56f4bb5d0113295c3e190f190ebf72de17ac"), looks := true }, kinds := [], alts := [], laidByText := true, laidKinds := [.data, .data, .data], laidTests := true, laidLooks := .later }
def GraphProgramsUptoCardSaid : Prop := Claim7.holds Tryz.pinned (.plain (OpenSpec.upto graphProgramsSpec)) graphProgramsUptoCard

/-- THE SECOND FORM's CARD OF 'metronomelaw18.TidyMeans'. -/
def tidyMeansUptoCard : Claim7 := { stood := { row := tidyMeansUptoRow, standIns := [], harness := (true, "f50347e73aaa9d340bc349c5a52e56f4bb5d0113295c3e190f190ebf72de17ac"), looks := true }, kinds := [], alts := [], laidByText := true, laidKinds := [.data, .data, .data], laidTests := true, laidLooks := .later }
def TidyMeansUptoCardSaid : Prop := Claim7.holds Tryz.pinned (.plain (OpenSpec.upto tidyMeansSpec)) tidyMeansUptoCard
end Rows
end Go.Proofs.YtbafhpblecdbbaaGreatDoor
