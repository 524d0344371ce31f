/-
  DERIVED. GIVEN WITH THE SEED: THE CARDS: each row of YtfgmlnfpecipnaaGreatDoorRows.lean that lists a variable, with what it lists TIED to the program's text (the seventh form; the later family's looks); each row that meets fmt, with fmt's text TOLD by the authors' own Lean function (tested against real Go, not proved from fmt's source: count such statements apart). THE CARD IS WHAT COUNTS. Prove the row's statement (the work); the ties are given (YtfgmlnfpecipnaaGreatDoorTie.lean); close each card by the builder's one call (the guide's Derived/Test/ToyasCard.lean, 'card_holds'). Laid BY PROGRAM, IN A SANDBOX (cutbox-door.mjs). By AI agents, Wed Nov 11 2026. No macro, syntax, notation, axiom, sorry.
-/
import Derived.Test.YtfgmlnfpecipnaaGreatDoorRows
import GoSem.ClaimSeven
namespace Go.Proofs.YtfgmlnfpecipnaaGreatDoor
namespace Rows

/-- THE TIED CARD OF 'metronomelaw26.DriverKnown'. -/
def driverKnownCard : Claim7 := { stood := { row := driverKnownRow, standIns := [], harness := (true, "79b5a97c92f3d30a213bac47c6e06bcc9859c2eed626cd5cc477d71c94dffddb"), looks := true }, kinds := [], alts := [], laidByText := true, laidKinds := [.data, .data, .data], laidTests := true, laidLooks := .later }
def DriverKnownCardSaid : Prop := Claim7.holds Tryz.pinned (.plain (OpenSpec.ofChange driverKnownSpec)) driverKnownCard

/-- THE SECOND FORM's CARD OF 'metronomelaw26.DriverKnown'. -/
def driverKnownUptoCard : Claim7 := { stood := { row := driverKnownUptoRow, standIns := [], harness := (true, "79b5a97c92f3d30a213bac47c6e06bcc9859c2eed626cd5cc477d71c94dffddb"), looks := true }, kinds := [], alts := [], laidByText := true, laidKinds := [.data, .data, .data], laidTests := true, laidLooks := .later }
def DriverKnownUptoCardSaid : Prop := Claim7.holds Tryz.pinned (.plain (OpenSpec.upto driverKnownSpec)) driverKnownUptoCard
end Rows
end Go.Proofs.YtfgmlnfpecipnaaGreatDoor
