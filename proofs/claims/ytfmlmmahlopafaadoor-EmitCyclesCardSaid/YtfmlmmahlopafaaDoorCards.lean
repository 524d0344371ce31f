/-
  DERIVED. GIVEN WITH THE SEED: THE CARDS: each row of YtfmlmmahlopafaaDoorRows.lean that lists a variable, with what it lists TIED to the program's text (the seventh form; the later family's looks); each row that meets fmt, with fmt's text TOLD by the authors' own Lean function (tested against real Go, not proved from fmt's source: count such statements apart). THE CARD IS WHAT COUNTS. Prove the row's statement (the work); the ties are given (YtfmlmmahlopafaaDoorTie.lean); close each card by the builder's one call (the guide's Derived/Test/ToyasCard.lean, 'card_holds'). Laid BY PROGRAM, IN A SANDBOX (cutbox-door.mjs). By AI agents, Wed Nov 11 2026. No macro, syntax, notation, axiom, sorry.
-/
import Derived.Test.YtfmlmmahlopafaaDoorRows
import GoSem.ClaimSeven
namespace Go.Proofs.YtfmlmmahlopafaaDoor
namespace Rows

/-- THE TIED CARD OF 'metronomelaw21.EmitCycles'. -/
def emitCyclesCard : Claim7 := { stood := { row := emitCyclesRow, standIns := [], harness := (true, "4bb03caebcca726d8eb212360b17fe6e053f77b0c88f838cca821cd9665c0cd8"), looks := false }, kinds := [], alts := [], laidByText := true, laidKinds := [.data, .data, .data], laidTests := true, laidLooks := .later }
def EmitCyclesCardSaid : Prop := Claim7.holds Tryd.pinned (.plain (OpenSpec.ofChange emitCyclesSpec)) emitCyclesCard

/-- THE SECOND FORM's CARD OF 'metronomelaw21.EmitCycles'. -/
def emitCyclesUptoCard : Claim7 := { stood := { row := emitCyclesUptoRow, standIns := [], harness := (true, "4bb03caebcca726d8eb212360b17fe6e053f77b0c88f838cca821cd9665c0cd8"), looks := false }, kinds := [], alts := [], laidByText := true, laidKinds := [.data, .data, .data], laidTests := true, laidLooks := .later }
def EmitCyclesUptoCardSaid : Prop := Claim7.holds Tryd.pinned (.plain (OpenSpec.upto emitCyclesSpec)) emitCyclesUptoCard
end Rows
end Go.Proofs.YtfmlmmahlopafaaDoor
