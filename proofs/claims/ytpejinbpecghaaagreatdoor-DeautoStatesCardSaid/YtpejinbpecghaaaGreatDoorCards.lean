/-
  DERIVED. GIVEN WITH THE SEED: THE CARDS: each row of YtpejinbpecghaaaGreatDoorRows.lean that lists a variable, with what it lists TIED to the program's text (the seventh form; the later family's looks); each row that meets fmt, with fmt's text TOLD by the authors' own Lean function (tested against real Go, not proved from fmt's source: count such statements apart). THE CARD IS WHAT COUNTS. Prove the row's statement (the work); the ties are given (YtpejinbpecghaaaGreatDoorTie.lean); close each card by the builder's one call (the guide's Derived/Test/ToyasCard.lean, 'card_holds'). Laid BY PROGRAM, IN A SANDBOX (cutbox-door.mjs). By AI agents, Wed Nov 11 2026. No macro, syntax, notation, axiom, sorry.
-/
import Derived.Test.YtpejinbpecghaaaGreatDoorRows
import GoSem.ClaimSeven
namespace Go.Proofs.YtpejinbpecghaaaGreatDoor
namespace Rows

/-- THE TIED CARD OF 'metronomelaw13.DeautoStates'. -/
def deautoStatesCard : Claim7 := { stood := { row := deautoStatesRow, standIns := [], harness := (true, "bd64450070a0706907be71d47bed68113dd44072588d03eba171ada1a6a27985"), looks := true }, kinds := [], alts := [], laidByText := true, laidKinds := [.data, .data, .data], laidTests := true, laidLooks := .later }
def DeautoStatesCardSaid : Prop := Claim7.holds Tryz.pinned (.plain (OpenSpec.ofChange deautoStatesSpec)) deautoStatesCard

/-- THE TIED CARD OF 'metronomelaw14.DeswitchCounts'. -/
def deswitchCountsCard : Claim7 := { stood := { row := deswitchCountsRow, standIns := [], harness := (true, "bd64450070a0706907be71d47bed68113dd44072588d03eba171ada1a6a27985"), looks := true }, kinds := [], alts := [], laidByText := true, laidKinds := [.data, .data, .data], laidTests := true, laidLooks := .later }
def DeswitchCountsCardSaid : Prop := Claim7.holds Tryz.pinned (.plain (OpenSpec.ofChange deswitchCountsSpec)) deswitchCountsCard

/-- THE SECOND FORM's CARD OF 'metronomelaw13.DeautoStates'. -/
def deautoStatesUptoCard : Claim7 := { stood := { row := deautoStatesUptoRow, standIns := [], harness := (true, "bd64450070a0706907be71d47bed68113dd44072588d03eba171ada1a6a27985"), looks := true }, kinds := [], alts := [], laidByText := true, laidKinds := [.data, .data, .data], laidTests := true, laidLooks := .later }
def DeautoStatesUptoCardSaid : Prop := Claim7.holds Tryz.pinned (.plain (OpenSpec.upto deautoStatesSpec)) deautoStatesUptoCard

/-- THE SECOND FORM's CARD OF 'metronomelaw14.DeswitchCounts'. -/
def deswitchCountsUptoCard : Claim7 := { stood := { row := deswitchCountsUptoRow, standIns := [], harness := (true, "bd64450070a0706907be71d47bed68113dd44072588d03eba171ada1a6a27985"), looks := true }, kinds := [], alts := [], laidByText := true, laidKinds := [.data, .data, .data], laidTests := true, laidLooks := .later }
def DeswitchCountsUptoCardSaid : Prop := Claim7.holds Tryz.pinned (.plain (OpenSpec.upto deswitchCountsSpec)) deswitchCountsUptoCard
end Rows
end Go.Proofs.YtpejinbpecghaaaGreatDoor
