/-
  DERIVED. GIVEN WITH THE SEED: THE CARDS: each row of YtclannenknhfpaaGreatDoorRows.lean that lists a variable, with what it lists TIED to the program's text (the seventh form; the later family's looks); each row that meets fmt, with fmt's text TOLD by the authors' own Lean function (tested against real Go, not proved from fmt's source: count such statements apart). THE CARD IS WHAT COUNTS. Prove the row's statement (the work); the ties are given (YtclannenknhfpaaGreatDoorTie.lean); close each card by the builder's one call (the guide's Derived/Test/ToyasCard.lean, 'card_holds'). Laid BY PROGRAM, IN A SANDBOX (cutbox-door.mjs). By AI agents, Wed Nov 11 2026. No macro, syntax, notation, axiom, sorry.
-/
import Derived.Test.YtclannenknhfpaaGreatDoorRows
import GoSem.ClaimSeven
namespace Go.Proofs.YtclannenknhfpaaGreatDoor
namespace Rows

/-- THE TIED CARD OF 'semblancelaw19.WitnessSimulations'. -/
def witnessSimulationsCard : Claim7 := { stood := { row := witnessSimulationsRow, standIns := [], harness := (true, "355c484568fbc69ec8661c8d70bf1562e7814d909462c498955f36a51fe76d68"), looks := true }, kinds := [], alts := [], laidByText := true, laidKinds := [.handle, .sentinel, .sentinel, .sentinel, .sentinel, .sentinel, .sentinel, .sentinel, .sentinel, .sentinel, .sentinel, .sentinel, .sentinel, .sentinel, .sentinel, .sentinel, .sentinel, .sentinel, .sentinel, .sentinel], laidTests := true, laidLooks := .later }
def WitnessSimulationsCardSaid : Prop := Claim7.holds Tryz.pinned (.plain (OpenSpec.ofChange witnessSimulationsSpec)) witnessSimulationsCard

/-- THE TIED CARD OF 'semblancelaw19.WitnessLooks'. -/
def witnessLooksCard : Claim7 := { stood := { row := witnessLooksRow, standIns := [], harness := (true, "355c484568fbc69ec8661c8d70bf1562e7814d909462c498955f36a51fe76d68"), looks := true }, kinds := [], alts := [], laidByText := true, laidKinds := [.handle, .sentinel, .sentinel, .sentinel, .sentinel, .sentinel, .sentinel, .sentinel, .sentinel, .sentinel, .sentinel, .sentinel, .sentinel, .sentinel, .sentinel, .sentinel, .sentinel, .sentinel, .sentinel, .sentinel], laidTests := true, laidLooks := .later }
def WitnessLooksCardSaid : Prop := Claim7.holds Tryz.pinned (.plain (OpenSpec.ofChange witnessLooksSpec)) witnessLooksCard

/-- THE TIED CARD OF 'semblancelaw7.GraphPlays'. -/
def graphPlaysCard : Claim7 := { stood := { row := graphPlaysRow, standIns := [], harness := (true, "355c484568fbc69ec8661c8d70bf1562e7814d909462c498955f36a51fe76d68"), looks := true }, kinds := [], alts := [], laidByText := true, laidKinds := [.sentinel, .sentinel, .sentinel, .sentinel, .sentinel, .sentinel, .sentinel, .sentinel, .sentinel, .sentinel, .sentinel, .sentinel, .sentinel, .sentinel, .sentinel, .sentinel, .sentinel, .sentinel, .sentinel], laidTests := true, laidLooks := .later }
def GraphPlaysCardSaid : Prop := Claim7.holds Tryz.pinned (.plain (OpenSpec.ofChange graphPlaysSpec)) graphPlaysCard

/-- THE SECOND FORM's CARD OF 'semblancelaw19.WitnessSimulations'. -/
def witnessSimulationsUptoCard : Claim7 := { stood := { row := witnessSimulationsUptoRow, standIns := [], harness := (true, "355c484568fbc69ec8661c8d70bf1562e7814d909462c498955f36a51fe76d68"), looks := true }, kinds := [], alts := [], laidByText := true, laidKinds := [.handle, .sentinel, .sentinel, .sentinel, .sentinel, .sentinel, .sentinel, .sentinel, .sentinel, .sentinel, .sentinel, .sentinel, .sentinel, .sentinel, .sentinel, .sentinel, .sentinel, .sentinel, .sentinel, .sentinel], laidTests := true, laidLooks := .later }
def WitnessSimulationsUptoCardSaid : Prop := Claim7.holds Tryz.pinned (.plain (OpenSpec.upto witnessSimulationsSpec)) witnessSimulationsUptoCard

/-- THE SECOND FORM's CARD OF 'semblancelaw19.WitnessLooks'. -/
def witnessLooksUptoCard : Claim7 := { stood := { row := witnessLooksUptoRow, standIns := [], harness := (true, "355c484568fbc69ec8661c8d70bf1562e7814d909462c498955f36a51fe76d68"), looks := true }, kinds := [], alts := [], laidByText := true, laidKinds := [.handle, .sentinel, .sentinel, .sentinel, .sentinel, .sentinel, .sentinel, .sentinel, .sentinel, .sentinel, .sentinel, .sentinel, .sentinel, .sentinel, .sentinel, .sentinel, .sentinel, .sentinel, .sentinel, .sentinel], laidTests := true, laidLooks := .later }
def WitnessLooksUptoCardSaid : Prop := Claim7.holds Tryz.pinned (.plain (OpenSpec.upto witnessLooksSpec)) witnessLooksUptoCard

/-- THE SECOND FORM's CARD OF 'semblancelaw7.GraphPlays'. -/
def graphPlaysUptoCard : Claim7 := { stood := { row := graphPlaysUptoRow, standIns := [], harness := (true, "355c484568fbc69ec8661c8d70bf1562e7814d909462c498955f36a51fe76d68"), looks := true }, kinds := [], alts := [], laidByText := true, laidKinds := [.sentinel, .sentinel, .sentinel, .sentinel, .sentinel, .sentinel, .sentinel, .sentinel, .sentinel, .sentinel, .sentinel, .sentinel, .sentinel, .sentinel, .sentinel, .sentinel, .sentinel, .sentinel, .sentinel], laidTests := true, laidLooks := .later }
def GraphPlaysUptoCardSaid : Prop := Claim7.holds Tryz.pinned (.plain (OpenSpec.upto graphPlaysSpec)) graphPlaysUptoCard
end Rows
end Go.Proofs.YtclannenknhfpaaGreatDoor
