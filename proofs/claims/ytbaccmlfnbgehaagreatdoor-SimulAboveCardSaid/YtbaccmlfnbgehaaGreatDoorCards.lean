/-
  DERIVED. GIVEN WITH THE SEED: THE CARDS: each row of YtbaccmlfnbgehaaGreatDoorRows.lean that lists a variable, with what it lists TIED to the program's text (the seventh form; the later family's looks); each row that meets fmt, with fmt's text TOLD by the authors' own Lean function (tested against real Go, not proved from fmt's source: count such statements apart). THE CARD IS WHAT COUNTS. Prove the row's statement (the work); the ties are given (YtbaccmlfnbgehaaGreatDoorTie.lean); close each card by the builder's one call (the guide's Derived/Test/ToyasCard.lean, 'card_holds'). Laid BY PROGRAM, IN A SANDBOX (cutbox-door.mjs). By AI agents, Wed Nov 11 2026. No macro, syntax, notation, axiom, sorry.
-/
import Derived.Test.YtbaccmlfnbgehaaGreatDoorRows
import GoSem.ClaimSeven
namespace Go.Proofs.YtbaccmlfnbgehaaGreatDoor
namespace Rows

/-- THE TIED CARD OF 'semblancelaw17.SimulAbove'. -/
def simulAboveCard : Claim7 := { stood := { row := simulAboveRow, standIns := [], harness := (true, "da91ac143a3df8fc8e7ecdf267fa39712145b792d919e0cb2def75c76e71b980"), looks := true }, kinds := [], alts := [], laidByText := true, laidKinds := [.data, .handle, .sentinel, .sentinel, .sentinel, .sentinel, .sentinel, .sentinel, .sentinel, .sentinel, .sentinel, .sentinel, .sentinel, .sentinel, .sentinel, .sentinel, .sentinel, .sentinel, .sentinel, .sentinel, .sentinel], laidTests := true, laidLooks := .later }
def SimulAboveCardSaid : Prop := Claim7.holds Tryz.pinned (.plain (OpenSpec.ofChange simulAboveSpec)) simulAboveCard

/-- THE TIED CARD OF 'semblancelaw13.WeakSteps'. -/
def weakStepsCard : Claim7 := { stood := { row := weakStepsRow, standIns := [], harness := (true, "da91ac143a3df8fc8e7ecdf267fa39712145b792d919e0cb2def75c76e71b980"), looks := true }, kinds := [], alts := [], laidByText := true, laidKinds := [.data, .handle, .sentinel, .sentinel, .sentinel, .sentinel, .sentinel, .sentinel, .sentinel, .sentinel, .sentinel, .sentinel, .sentinel, .sentinel, .sentinel, .sentinel, .sentinel, .sentinel, .sentinel, .sentinel, .sentinel, .sentinel], laidTests := true, laidLooks := .later }
def WeakStepsCardSaid : Prop := Claim7.holds Tryz.pinned (.plain (OpenSpec.ofChange weakStepsSpec)) weakStepsCard

/-- THE SECOND FORM's CARD OF 'semblancelaw17.SimulAbove'. -/
def simulAboveUptoCard : Claim7 := { stood := { row := simulAboveUptoRow, standIns := [], harness := (true, "da91ac143a3df8fc8e7ecdf267fa39712145b792d919e0cb2def75c76e71b980"), looks := true }, kinds := [], alts := [], laidByText := true, laidKinds := [.data, .handle, .sentinel, .sentinel, .sentinel, .sentinel, .sentinel, .sentinel, .sentinel, .sentinel, .sentinel, .sentinel, .sentinel, .sentinel, .sentinel, .sentinel, .sentinel, .sentinel, .sentinel, .sentinel, .sentinel], laidTests := true, laidLooks := .later }
def SimulAboveUptoCardSaid : Prop := Claim7.holds Tryz.pinned (.plain (OpenSpec.upto simulAboveSpec)) simulAboveUptoCard

/-- THE SECOND FORM's CARD OF 'semblancelaw13.WeakSteps'. -/
def weakStepsUptoCard : Claim7 := { stood := { row := weakStepsUptoRow, standIns := [], harness := (true, "da91ac143a3df8fc8e7ecdf267fa39712145b792d919e0cb2def75c76e71b980"), looks := true }, kinds := [], alts := [], laidByText := true, laidKinds := [.data, .handle, .sentinel, .sentinel, .sentinel, .sentinel, .sentinel, .sentinel, .sentinel, .sentinel, .sentinel, .sentinel, .sentinel, .sentinel, .sentinel, .sentinel, .sentinel, .sentinel, .sentinel, .sentinel, .sentinel, .sentinel], laidTests := true, laidLooks := .later }
def WeakStepsUptoCardSaid : Prop := Claim7.holds Tryz.pinned (.plain (OpenSpec.upto weakStepsSpec)) weakStepsUptoCard
end Rows
end Go.Proofs.YtbaccmlfnbgehaaGreatDoor
