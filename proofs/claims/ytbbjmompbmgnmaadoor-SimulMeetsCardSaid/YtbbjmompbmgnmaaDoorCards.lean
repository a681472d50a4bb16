/-
  DERIVED. GIVEN WITH THE SEED: THE CARDS: each row of YtbbjmompbmgnmaaDoorRows.lean that lists a variable, with what it lists TIED to the program's text (the seventh form; the later family's looks); each row that meets fmt, with fmt's text TOLD by the authors' own Lean function (tested against real Go, not proved from fmt's source: count such statements apart). THE CARD IS WHAT COUNTS. Prove the row's statement (the work); the ties are given (YtbbjmompbmgnmaaDoorTie.lean); close each card by the builder's one call (the guide's Derived/Test/ToyasCard.lean, 'card_holds'). Laid BY PROGRAM, IN A SANDBOX (cutbox-door.mjs). By AI agents, Wed Nov 11 2026. No macro, syntax, notation, axiom, sorry.
-/
import Derived.Test.YtbbjmompbmgnmaaDoorRows
import GoSem.ClaimSeven
namespace Go.Proofs.YtbbjmompbmgnmaaDoor
namespace Rows

/-- THE TIED CARD OF 'semblancelaw19.WitnessFails'. -/
def witnessFailsCard : Claim7 := { stood := { row := witnessFailsRow, standIns := [], harness := (true, "38a9759c5dfdf93312817cfa7e0934508f14902006eb8b88b1ed3bb8ab1982fd"), looks := true }, kinds := [], alts := [], laidByText := true, laidKinds := [.handle, .sentinel, .sentinel], laidTests := true, laidLooks := .later }
def WitnessFailsCardSaid : Prop := Claim7.holds Tryd.pinned (.plain (OpenSpec.ofChange witnessFailsSpec)) witnessFailsCard

/-- THE TIED CARD OF 'semblancelaw17.SimulOrder'. -/
def simulOrderCard : Claim7 := { stood := { row := simulOrderRow, standIns := [], harness := (true, "38a9759c5dfdf93312817cfa7e0934508f14902006eb8b88b1ed3bb8ab1982fd"), looks := true }, kinds := [], alts := [], laidByText := true, laidKinds := [.data, .handle, .sentinel, .sentinel, .sentinel], laidTests := true, laidLooks := .later }
def SimulOrderCardSaid : Prop := Claim7.holds Tryd.pinned (.plain (OpenSpec.ofChange simulOrderSpec)) simulOrderCard

/-- THE TIED CARD OF 'semblancelaw17.SimulMeets'. -/
def simulMeetsCard : Claim7 := { stood := { row := simulMeetsRow, standIns := [], harness := (true, "38a9759c5dfdf93312817cfa7e0934508f14902006eb8b88b1ed3bb8ab1982fd"), looks := true }, kinds := [], alts := [], laidByText := true, laidKinds := [.data, .handle, .sentinel, .sentinel, .sentinel], laidTests := true, laidLooks := .later }
def SimulMeetsCardSaid : Prop := Claim7.holds Tryd.pinned (.plain (OpenSpec.ofChange simulMeetsSpec)) simulMeetsCard

/-- THE TIED CARD OF 'semblancelaw11.CyclesEdges'. -/
def cyclesEdgesCard : Claim7 := { stood := { row := cyclesEdgesRow, standIns := [], harness := (true, "38a9759c5dfdf93312817cfa7e0934508f14902006eb8b88b1ed3bb8ab1982fd"), looks := true }, kinds := [], alts := [], laidByText := true, laidKinds := [.handle, .sentinel], laidTests := true, laidLooks := .later }
def CyclesEdgesCardSaid : Prop := Claim7.holds Tryd.pinned (.plain (OpenSpec.ofChange cyclesEdgesSpec)) cyclesEdgesCard

/-- THE TIED CARD OF 'semblancelaw7.GraphCuts'. -/
def graphCutsCard : Claim7 := { stood := { row := graphCutsRow, standIns := [], harness := (true, "38a9759c5dfdf93312817cfa7e0934508f14902006eb8b88b1ed3bb8ab1982fd"), looks := true }, kinds := [], alts := [], laidByText := true, laidKinds := [.sentinel], laidTests := true, laidLooks := .later }
def GraphCutsCardSaid : Prop := Claim7.holds Tryd.pinned (.plain (OpenSpec.ofChange graphCutsSpec)) graphCutsCard

/-- THE TIED CARD OF 'semblancelaw11.CyclesNone'. -/
def cyclesNoneCard : Claim7 := { stood := { row := cyclesNoneRow, standIns := [], harness := (true, "38a9759c5dfdf93312817cfa7e0934508f14902006eb8b88b1ed3bb8ab1982fd"), looks := true }, kinds := [], alts := [], laidByText := true, laidKinds := [.handle, .sentinel], laidTests := true, laidLooks := .later }
def CyclesNoneCardSaid : Prop := Claim7.holds Tryd.pinned (.plain (OpenSpec.ofChange cyclesNoneSpec)) cyclesNoneCard

/-- THE SECOND FORM's CARD OF 'semblancelaw19.WitnessFails'. -/
def witnessFailsUptoCard : Claim7 := { stood := { row := witnessFailsUptoRow, standIns := [], harness := (true, "38a9759c5dfdf93312817cfa7e0934508f14902006eb8b88b1ed3bb8ab1982fd"), looks := true }, kinds := [], alts := [], laidByText := true, laidKinds := [.handle, .sentinel, .sentinel], laidTests := true, laidLooks := .later }
def WitnessFailsUptoCardSaid : Prop := Claim7.holds Tryd.pinned (.plain (OpenSpec.upto witnessFailsSpec)) witnessFailsUptoCard

/-- THE SECOND FORM's CARD OF 'semblancelaw17.SimulOrder'. -/
def simulOrderUptoCard : Claim7 := { stood := { row := simulOrderUptoRow, standIns := [], harness := (true, "38a9759c5dfdf93312817cfa7e0934508f14902006eb8b88b1ed3bb8ab1982fd"), looks := true }, kinds := [], alts := [], laidByText := true, laidKinds := [.data, .handle, .sentinel, .sentinel, .sentinel], laidTests := true, laidLooks := .later }
def SimulOrderUptoCardSaid : Prop := Claim7.holds Tryd.pinned (.plain (OpenSpec.upto simulOrderSpec)) simulOrderUptoCard

/-- THE SECOND FORM's CARD OF 'semblancelaw17.SimulMeets'. -/
def simulMeetsUptoCard : Claim7 := { stood := { row := simulMeetsUptoRow, standIns := [], harness := (true, "38a9759c5dfdf93312817cfa7e0934508f14902006eb8b88b1ed3bb8ab1982fd"), looks := true }, kinds := [], alts := [], laidByText := true, laidKinds := [.data, .handle, .sentinel, .sentinel, .sentinel], laidTests := true, laidLooks := .later }
def SimulMeetsUptoCardSaid : Prop := Claim7.holds Tryd.pinned (.plain (OpenSpec.upto simulMeetsSpec)) simulMeetsUptoCard

/-- THE SECOND FORM's CARD OF 'semblancelaw11.CyclesEdges'. -/
def cyclesEdgesUptoCard : Claim7 := { stood := { row := cyclesEdgesUptoRow, standIns := [], harness := (true, "38a9759c5dfdf93312817cfa7e0934508f14902006eb8b88b1ed3bb8ab1982fd"), looks := true }, kinds := [], alts := [], laidByText := true, laidKinds := [.handle, .sentinel], laidTests := true, laidLooks := .later }
def CyclesEdgesUptoCardSaid : Prop := Claim7.holds Tryd.pinned (.plain (OpenSpec.upto cyclesEdgesSpec)) cyclesEdgesUptoCard

/-- THE SECOND FORM's CARD OF 'semblancelaw7.GraphCuts'. -/
def graphCutsUptoCard : Claim7 := { stood := { row := graphCutsUptoRow, standIns := [], harness := (true, "38a9759c5dfdf93312817cfa7e0934508f14902006eb8b88b1ed3bb8ab1982fd"), looks := true }, kinds := [], alts := [], laidByText := true, laidKinds := [.sentinel], laidTests := true, laidLooks := .later }
def GraphCutsUptoCardSaid : Prop := Claim7.holds Tryd.pinned (.plain (OpenSpec.upto graphCutsSpec)) graphCutsUptoCard

/-- THE SECOND FORM's CARD OF 'semblancelaw11.CyclesNone'. -/
def cyclesNoneUptoCard : Claim7 := { stood := { row := cyclesNoneUptoRow, standIns := [], harness := (true, "38a9759c5dfdf93312817cfa7e0934508f14902006eb8b88b1ed3bb8ab1982fd"), looks := true }, kinds := [], alts := [], laidByText := true, laidKinds := [.handle, .sentinel], laidTests := true, laidLooks := .later }
def CyclesNoneUptoCardSaid : Prop := Claim7.holds Tryd.pinned (.plain (OpenSpec.upto cyclesNoneSpec)) cyclesNoneUptoCard
end Rows
end Go.Proofs.YtbbjmompbmgnmaaDoor
