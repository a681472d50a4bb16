/-
  DERIVED. GIVEN WITH THE SEED: THE CARDS: each row of YtfakdgljilmpkaaGreatDoorRows.lean that lists a variable, with what it lists TIED to the program's text (the seventh form; the later family's looks); each row that meets fmt, with fmt's text TOLD by the authors' own Lean function (tested against real Go, not proved from fmt's source: count such statements apart). THE CARD IS WHAT COUNTS. Prove the row's statement (the work); the ties are given (YtfakdgljilmpkaaGreatDoorTie.lean); close each card by the builder's one call (the guide's Derived/Test/ToyasCard.lean, 'card_holds'). Laid BY PROGRAM, IN A SANDBOX (cutbox-door.mjs). By AI agents, Wed Nov 11 2026. No macro, syntax, notation, axiom, sorry.
-/
import Derived.Test.YtfakdgljilmpkaaGreatDoorRows
import GoSem.ClaimSeven
namespace Go.Proofs.YtfakdgljilmpkaaGreatDoor
namespace Rows

/-- THE TIED CARD OF 'semblancelaw13.WeakSilence'. -/
def weakSilenceCard : Claim7 := { stood := { row := weakSilenceRow, standIns := [], harness := (true, "2c2792358ed0334f2335019aa7e5d1c58c9b5dd5d03dc416412f8206dbf8dc74"), looks := true }, kinds := [], alts := [], laidByText := true, laidKinds := [.data, .handle, .sentinel, .sentinel, .sentinel, .sentinel], laidTests := true, laidLooks := .later }
def WeakSilenceCardSaid : Prop := Claim7.holds Tryz.pinned (.plain (OpenSpec.ofChange weakSilenceSpec)) weakSilenceCard

/-- THE TIED CARD OF 'semblancelaw9.StrongGauge'. -/
def strongGaugeCard : Claim7 := { stood := { row := strongGaugeRow, standIns := [], harness := (true, "2c2792358ed0334f2335019aa7e5d1c58c9b5dd5d03dc416412f8206dbf8dc74"), looks := true }, kinds := [], alts := [], laidByText := true, laidKinds := [.handle, .sentinel, .sentinel, .sentinel, .sentinel], laidTests := true, laidLooks := .later }
def StrongGaugeCardSaid : Prop := Claim7.holds Tryz.pinned (.plain (OpenSpec.ofChange strongGaugeSpec)) strongGaugeCard

/-- THE TIED CARD OF 'semblancelaw9.StrongNamed'. -/
def strongNamedCard : Claim7 := { stood := { row := strongNamedRow, standIns := [], harness := (true, "2c2792358ed0334f2335019aa7e5d1c58c9b5dd5d03dc416412f8206dbf8dc74"), looks := true }, kinds := [], alts := [], laidByText := true, laidKinds := [.handle, .sentinel, .sentinel, .sentinel, .sentinel], laidTests := true, laidLooks := .later }
def StrongNamedCardSaid : Prop := Claim7.holds Tryz.pinned (.plain (OpenSpec.ofChange strongNamedSpec)) strongNamedCard

/-- THE TIED CARD OF 'semblancelaw9.StrongEdges'. -/
def strongEdgesCard : Claim7 := { stood := { row := strongEdgesRow, standIns := [], harness := (true, "2c2792358ed0334f2335019aa7e5d1c58c9b5dd5d03dc416412f8206dbf8dc74"), looks := true }, kinds := [], alts := [], laidByText := true, laidKinds := [.handle, .sentinel, .sentinel, .sentinel, .sentinel], laidTests := true, laidLooks := .later }
def StrongEdgesCardSaid : Prop := Claim7.holds Tryz.pinned (.plain (OpenSpec.ofChange strongEdgesSpec)) strongEdgesCard

/-- THE TIED CARD OF 'semblancelaw9.StrongApart'. -/
def strongApartCard : Claim7 := { stood := { row := strongApartRow, standIns := [], harness := (true, "2c2792358ed0334f2335019aa7e5d1c58c9b5dd5d03dc416412f8206dbf8dc74"), looks := true }, kinds := [], alts := [], laidByText := true, laidKinds := [.handle, .sentinel, .sentinel, .sentinel, .sentinel], laidTests := true, laidLooks := .later }
def StrongApartCardSaid : Prop := Claim7.holds Tryz.pinned (.plain (OpenSpec.ofChange strongApartSpec)) strongApartCard

/-- THE TIED CARD OF 'semblancelaw14.QuotientSame'. -/
def quotientSameCard : Claim7 := { stood := { row := quotientSameRow, standIns := [], harness := (true, "2c2792358ed0334f2335019aa7e5d1c58c9b5dd5d03dc416412f8206dbf8dc74"), looks := true }, kinds := [], alts := [], laidByText := true, laidKinds := [.handle, .sentinel, .sentinel, .sentinel, .sentinel], laidTests := true, laidLooks := .later }
def QuotientSameCardSaid : Prop := Claim7.holds Tryz.pinned (.plain (OpenSpec.ofChange quotientSameSpec)) quotientSameCard

/-- THE TIED CARD OF 'semblancelaw9.StrongRelates'. -/
def strongRelatesCard : Claim7 := { stood := { row := strongRelatesRow, standIns := [], harness := (true, "2c2792358ed0334f2335019aa7e5d1c58c9b5dd5d03dc416412f8206dbf8dc74"), looks := true }, kinds := [], alts := [], laidByText := true, laidKinds := [.handle, .sentinel, .sentinel, .sentinel, .sentinel], laidTests := true, laidLooks := .later }
def StrongRelatesCardSaid : Prop := Claim7.holds Tryz.pinned (.plain (OpenSpec.ofChange strongRelatesSpec)) strongRelatesCard

/-- THE TIED CARD OF 'semblancelaw19.WitnessJoined'. -/
def witnessJoinedCard : Claim7 := { stood := { row := witnessJoinedRow, standIns := [], harness := (true, "2c2792358ed0334f2335019aa7e5d1c58c9b5dd5d03dc416412f8206dbf8dc74"), looks := true }, kinds := [], alts := [], laidByText := true, laidKinds := [.handle, .sentinel, .sentinel, .sentinel, .sentinel], laidTests := true, laidLooks := .later }
def WitnessJoinedCardSaid : Prop := Claim7.holds Tryz.pinned (.plain (OpenSpec.ofChange witnessJoinedSpec)) witnessJoinedCard

/-- THE TIED CARD OF 'semblancelaw17.SimulStrong'. -/
def simulStrongCard : Claim7 := { stood := { row := simulStrongRow, standIns := [], harness := (true, "2c2792358ed0334f2335019aa7e5d1c58c9b5dd5d03dc416412f8206dbf8dc74"), looks := true }, kinds := [], alts := [], laidByText := true, laidKinds := [.data, .handle, .sentinel, .sentinel, .sentinel, .sentinel], laidTests := true, laidLooks := .later }
def SimulStrongCardSaid : Prop := Claim7.holds Tryz.pinned (.plain (OpenSpec.ofChange simulStrongSpec)) simulStrongCard

/-- THE TIED CARD OF 'semblancelaw9.StrongEnds'. -/
def strongEndsCard : Claim7 := { stood := { row := strongEndsRow, standIns := [], harness := (true, "2c2792358ed0334f2335019aa7e5d1c58c9b5dd5d03dc416412f8206dbf8dc74"), looks := true }, kinds := [], alts := [], laidByText := true, laidKinds := [.handle, .sentinel, .sentinel, .sentinel, .sentinel, .sentinel, .sentinel, .sentinel, .sentinel, .sentinel, .sentinel, .sentinel, .sentinel, .sentinel, .sentinel, .sentinel, .sentinel, .sentinel, .sentinel, .sentinel], laidTests := true, laidLooks := .later }
def StrongEndsCardSaid : Prop := Claim7.holds Tryz.pinned (.plain (OpenSpec.ofChange strongEndsSpec)) strongEndsCard

/-- THE TIED CARD OF 'semblancelaw19.WitnessSimulates'. -/
def witnessSimulatesCard : Claim7 := { stood := { row := witnessSimulatesRow, standIns := [], harness := (true, "2c2792358ed0334f2335019aa7e5d1c58c9b5dd5d03dc416412f8206dbf8dc74"), looks := true }, kinds := [], alts := [], laidByText := true, laidKinds := [.data, .handle, .sentinel, .sentinel, .sentinel, .sentinel, .sentinel], laidTests := true, laidLooks := .later }
def WitnessSimulatesCardSaid : Prop := Claim7.holds Tryz.pinned (.plain (OpenSpec.ofChange witnessSimulatesSpec)) witnessSimulatesCard

/-- THE SECOND FORM's CARD OF 'semblancelaw13.WeakSilence'. -/
def weakSilenceUptoCard : Claim7 := { stood := { row := weakSilenceUptoRow, standIns := [], harness := (true, "2c2792358ed0334f2335019aa7e5d1c58c9b5dd5d03dc416412f8206dbf8dc74"), looks := true }, kinds := [], alts := [], laidByText := true, laidKinds := [.data, .handle, .sentinel, .sentinel, .sentinel, .sentinel], laidTests := true, laidLooks := .later }
def WeakSilenceUptoCardSaid : Prop := Claim7.holds Tryz.pinned (.plain (OpenSpec.upto weakSilenceSpec)) weakSilenceUptoCard

/-- THE SECOND FORM's CARD OF 'semblancelaw9.StrongGauge'. -/
def strongGaugeUptoCard : Claim7 := { stood := { row := strongGaugeUptoRow, standIns := [], harness := (true, "2c2792358ed0334f2335019aa7e5d1c58c9b5dd5d03dc416412f8206dbf8dc74"), looks := true }, kinds := [], alts := [], laidByText := true, laidKinds := [.handle, .sentinel, .sentinel, .sentinel, .sentinel], laidTests := true, laidLooks := .later }
def StrongGaugeUptoCardSaid : Prop := Claim7.holds Tryz.pinned (.plain (OpenSpec.upto strongGaugeSpec)) strongGaugeUptoCard

/-- THE SECOND FORM's CARD OF 'semblancelaw9.StrongNamed'. -/
def strongNamedUptoCard : Claim7 := { stood := { row := strongNamedUptoRow, standIns := [], harness := (true, "2c2792358ed0334f2335019aa7e5d1c58c9b5dd5d03dc416412f8206dbf8dc74"), looks := true }, kinds := [], alts := [], laidByText := true, laidKinds := [.handle, .sentinel, .sentinel, .sentinel, .sentinel], laidTests := true, laidLooks := .later }
def StrongNamedUptoCardSaid : Prop := Claim7.holds Tryz.pinned (.plain (OpenSpec.upto strongNamedSpec)) strongNamedUptoCard

/-- THE SECOND FORM's CARD OF 'semblancelaw9.StrongEdges'. -/
def strongEdgesUptoCard : Claim7 := { stood := { row := strongEdgesUptoRow, standIns := [], harness := (true, "2c2792358ed0334f2335019aa7e5d1c58c9b5dd5d03dc416412f8206dbf8dc74"), looks := true }, kinds := [], alts := [], laidByText := true, laidKinds := [.handle, .sentinel, .sentinel, .sentinel, .sentinel], laidTests := true, laidLooks := .later }
def StrongEdgesUptoCardSaid : Prop := Claim7.holds Tryz.pinned (.plain (OpenSpec.upto strongEdgesSpec)) strongEdgesUptoCard

/-- THE SECOND FORM's CARD OF 'semblancelaw9.StrongApart'. -/
def strongApartUptoCard : Claim7 := { stood := { row := strongApartUptoRow, standIns := [], harness := (true, "2c2792358ed0334f2335019aa7e5d1c58c9b5dd5d03dc416412f8206dbf8dc74"), looks := true }, kinds := [], alts := [], laidByText := true, laidKinds := [.handle, .sentinel, .sentinel, .sentinel, .sentinel], laidTests := true, laidLooks := .later }
def StrongApartUptoCardSaid : Prop := Claim7.holds Tryz.pinned (.plain (OpenSpec.upto strongApartSpec)) strongApartUptoCard

/-- THE SECOND FORM's CARD OF 'semblancelaw14.QuotientSame'. -/
def quotientSameUptoCard : Claim7 := { stood := { row := quotientSameUptoRow, standIns := [], harness := (true, "2c2792358ed0334f2335019aa7e5d1c58c9b5dd5d03dc416412f8206dbf8dc74"), looks := true }, kinds := [], alts := [], laidByText := true, laidKinds := [.handle, .sentinel, .sentinel, .sentinel, .sentinel], laidTests := true, laidLooks := .later }
def QuotientSameUptoCardSaid : Prop := Claim7.holds Tryz.pinned (.plain (OpenSpec.upto quotientSameSpec)) quotientSameUptoCard

/-- THE SECOND FORM's CARD OF 'semblancelaw9.StrongRelates'. -/
def strongRelatesUptoCard : Claim7 := { stood := { row := strongRelatesUptoRow, standIns := [], harness := (true, "2c2792358ed0334f2335019aa7e5d1c58c9b5dd5d03dc416412f8206dbf8dc74"), looks := true }, kinds := [], alts := [], laidByText := true, laidKinds := [.handle, .sentinel, .sentinel, .sentinel, .sentinel], laidTests := true, laidLooks := .later }
def StrongRelatesUptoCardSaid : Prop := Claim7.holds Tryz.pinned (.plain (OpenSpec.upto strongRelatesSpec)) strongRelatesUptoCard

/-- THE SECOND FORM's CARD OF 'semblancelaw19.WitnessJoined'. -/
def witnessJoinedUptoCard : Claim7 := { stood := { row := witnessJoinedUptoRow, standIns := [], harness := (true, "2c2792358ed0334f2335019aa7e5d1c58c9b5dd5d03dc416412f8206dbf8dc74"), looks := true }, kinds := [], alts := [], laidByText := true, laidKinds := [.handle, .sentinel, .sentinel, .sentinel, .sentinel], laidTests := true, laidLooks := .later }
def WitnessJoinedUptoCardSaid : Prop := Claim7.holds Tryz.pinned (.plain (OpenSpec.upto witnessJoinedSpec)) witnessJoinedUptoCard

/-- THE SECOND FORM's CARD OF 'semblancelaw17.SimulStrong'. -/
def simulStrongUptoCard : Claim7 := { stood := { row := simulStrongUptoRow, standIns := [], harness := (true, "2c2792358ed0334f2335019aa7e5d1c58c9b5dd5d03dc416412f8206dbf8dc74"), looks := true }, kinds := [], alts := [], laidByText := true, laidKinds := [.data, .handle, .sentinel, .sentinel, .sentinel, .sentinel], laidTests := true, laidLooks := .later }
def SimulStrongUptoCardSaid : Prop := Claim7.holds Tryz.pinned (.plain (OpenSpec.upto simulStrongSpec)) simulStrongUptoCard

/-- THE SECOND FORM's CARD OF 'semblancelaw9.StrongEnds'. -/
def strongEndsUptoCard : Claim7 := { stood := { row := strongEndsUptoRow, standIns := [], harness := (true, "2c2792358ed0334f2335019aa7e5d1c58c9b5dd5d03dc416412f8206dbf8dc74"), looks := true }, kinds := [], alts := [], laidByText := true, laidKinds := [.handle, .sentinel, .sentinel, .sentinel, .sentinel, .sentinel, .sentinel, .sentinel, .sentinel, .sentinel, .sentinel, .sentinel, .sentinel, .sentinel, .sentinel, .sentinel, .sentinel, .sentinel, .sentinel, .sentinel], laidTests := true, laidLooks := .later }
def StrongEndsUptoCardSaid : Prop := Claim7.holds Tryz.pinned (.plain (OpenSpec.upto strongEndsSpec)) strongEndsUptoCard

/-- THE SECOND FORM's CARD OF 'semblancelaw19.WitnessSimulates'. -/
def witnessSimulatesUptoCard : Claim7 := { stood := { row := witnessSimulatesUptoRow, standIns := [], harness := (true, "2c2792358ed0334f2335019aa7e5d1c58c9b5dd5d03dc416412f8206dbf8dc74"), looks := true }, kinds := [], alts := [], laidByText := true, laidKinds := [.data, .handle, .sentinel, .sentinel, .sentinel, .sentinel, .sentinel], laidTests := true, laidLooks := .later }
def WitnessSimulatesUptoCardSaid : Prop := Claim7.holds Tryz.pinned (.plain (OpenSpec.upto witnessSimulatesSpec)) witnessSimulatesUptoCard
end Rows
end Go.Proofs.YtfakdgljilmpkaaGreatDoor
