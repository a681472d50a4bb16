/-
  DERIVED. GIVEN WITH THE SEED: THE CARDS: each row of YtkmljelgogcobaaGreatDoorRows.lean that lists a variable, with what it lists TIED to the program's text (the seventh form; the later family's looks); each row that meets fmt, with fmt's text TOLD by the authors' own Lean function (tested against real Go, not proved from fmt's source: count such statements apart). THE CARD IS WHAT COUNTS. Prove the row's statement (the work); the ties are given (YtkmljelgogcobaaGreatDoorTie.lean); close each card by the builder's one call (the guide's Derived/Test/ToyasCard.lean, 'card_holds'). Laid BY PROGRAM, IN A SANDBOX (cutbox-door.mjs). By AI agents, Wed Nov 11 2026. No macro, syntax, notation, axiom, sorry.
-/
import Derived.Test.YtkmljelgogcobaaGreatDoorRows
import GoSem.ClaimSeven
namespace Go.Proofs.YtkmljelgogcobaaGreatDoor
namespace Rows

/-- THE TIED CARD OF 'semblancelaw7.GraphAll'. -/
def graphAllCard : Claim7 := { stood := { row := graphAllRow, standIns := [], harness := (true, "975a6d4ddd8607ec4d6838f50ba0f41729382b2e3f341ce355d54f3c103a8bac"), looks := true }, kinds := [], alts := [], laidByText := true, laidKinds := [.sentinel], laidTests := true, laidLooks := .later }
def GraphAllCardSaid : Prop := Claim7.holds Tryz.pinned (.plain (OpenSpec.ofChange graphAllSpec)) graphAllCard

/-- THE TIED CARD OF 'semblancelaw11.CyclesAll'. -/
def cyclesAllCard : Claim7 := { stood := { row := cyclesAllRow, standIns := [], harness := (true, "975a6d4ddd8607ec4d6838f50ba0f41729382b2e3f341ce355d54f3c103a8bac"), looks := true }, kinds := [], alts := [], laidByText := true, laidKinds := [.handle, .sentinel, .sentinel, .sentinel, .sentinel, .sentinel, .sentinel, .sentinel, .sentinel, .sentinel, .sentinel, .sentinel, .sentinel, .sentinel, .sentinel, .sentinel, .sentinel, .sentinel, .sentinel, .sentinel], laidTests := true, laidLooks := .later }
def CyclesAllCardSaid : Prop := Claim7.holds Tryz.pinned (.plain (OpenSpec.ofChange cyclesAllSpec)) cyclesAllCard

/-- THE TIED CARD OF 'semblancelaw7.GraphPlays'. -/
def graphPlaysCard : Claim7 := { stood := { row := graphPlaysRow, standIns := [], harness := (true, "975a6d4ddd8607ec4d6838f50ba0f41729382b2e3f341ce355d54f3c103a8bac"), looks := true }, kinds := [], alts := [], laidByText := true, laidKinds := [.sentinel, .sentinel, .sentinel, .sentinel, .sentinel, .sentinel, .sentinel, .sentinel, .sentinel, .sentinel, .sentinel, .sentinel, .sentinel, .sentinel, .sentinel, .sentinel, .sentinel, .sentinel, .sentinel], laidTests := true, laidLooks := .later }
def GraphPlaysCardSaid : Prop := Claim7.holds Tryz.pinned (.plain (OpenSpec.ofChange graphPlaysSpec)) graphPlaysCard

/-- THE SECOND FORM's CARD OF 'semblancelaw7.GraphAll'. -/
def graphAllUptoCard : Claim7 := { stood := { row := graphAllUptoRow, standIns := [], harness := (true, "975a6d4ddd8607ec4d6838f50ba0f41729382b2e3f341ce355d54f3c103a8bac"), looks := true }, kinds := [], alts := [], laidByText := true, laidKinds := [.sentinel], laidTests := true, laidLooks := .later }
def GraphAllUptoCardSaid : Prop := Claim7.holds Tryz.pinned (.plain (OpenSpec.upto graphAllSpec)) graphAllUptoCard

/-- THE SECOND FORM's CARD OF 'semblancelaw11.CyclesAll'. -/
def cyclesAllUptoCard : Claim7 := { stood := { row := cyclesAllUptoRow, standIns := [], harness := (true, "975a6d4ddd8607ec4d6838f50ba0f41729382b2e3f341ce355d54f3c103a8bac"), looks := true }, kinds := [], alts := [], laidByText := true, laidKinds := [.handle, .sentinel, .sentinel, .sentinel, .sentinel, .sentinel, .sentinel, .sentinel, .sentinel, .sentinel, .sentinel, .sentinel, .sentinel, .sentinel, .sentinel, .sentinel, .sentinel, .sentinel, .sentinel, .sentinel], laidTests := true, laidLooks := .later }
def CyclesAllUptoCardSaid : Prop := Claim7.holds Tryz.pinned (.plain (OpenSpec.upto cyclesAllSpec)) cyclesAllUptoCard

/-- THE SECOND FORM's CARD OF 'semblancelaw7.GraphPlays'. -/
def graphPlaysUptoCard : Claim7 := { stood := { row := graphPlaysUptoRow, standIns := [], harness := (true, "975a6d4ddd8607ec4d6838f50ba0f41729382b2e3f341ce355d54f3c103a8bac"), looks := true }, kinds := [], alts := [], laidByText := true, laidKinds := [.sentinel, .sentinel, .sentinel, .sentinel, .sentinel, .sentinel, .sentinel, .sentinel, .sentinel, .sentinel, .sentinel, .sentinel, .sentinel, .sentinel, .sentinel, .sentinel, .sentinel, .sentinel, .sentinel], laidTests := true, laidLooks := .later }
def GraphPlaysUptoCardSaid : Prop := Claim7.holds Tryz.pinned (.plain (OpenSpec.upto graphPlaysSpec)) graphPlaysUptoCard
end Rows
end Go.Proofs.YtkmljelgogcobaaGreatDoor
