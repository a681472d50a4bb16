/-
  DERIVED. GIVEN WITH THE SEED: THE CARDS: each row of YtdhloijdefnkpaaGreatDoorRows.lean that lists a variable, with what it lists TIED to the program's text (the seventh form; the later family's looks); each row that meets fmt, with fmt's text TOLD by the authors' own Lean function (tested against real Go, not proved from fmt's source: count such statements apart). THE CARD IS WHAT COUNTS. Prove the row's statement (the work); the ties are given (YtdhloijdefnkpaaGreatDoorTie.lean); close each card by the builder's one call (the guide's Derived/Test/ToyasCard.lean, 'card_holds'). Laid BY PROGRAM, IN A SANDBOX (cutbox-door.mjs). By AI agents, Wed Nov 11 2026. No macro, syntax, notation, axiom, sorry.
-/
import Derived.Test.YtdhloijdefnkpaaGreatDoorRows
import GoSem.ClaimSeven
namespace Go.Proofs.YtdhloijdefnkpaaGreatDoor
namespace Rows

/-- THE TIED CARD OF 'semblancelaw13.WeakSilence'. -/
def weakSilenceCard : Claim7 := { stood := { row := weakSilenceRow, standIns := [], harness := (true, "1481946f80a37d932268d4b69350b1b082522153ba5c82dc53c53ddba40f626d"), looks := true }, kinds := [], alts := [], laidByText := true, laidKinds := [.data, .handle, .sentinel, .sentinel, .sentinel, .sentinel], laidTests := true, laidLooks := .later }
def WeakSilenceCardSaid : Prop := Claim7.holds Tryz.pinned (.plain (OpenSpec.ofChange weakSilenceSpec)) weakSilenceCard

/-- THE TIED CARD OF 'semblancelaw13.WeakMany'. -/
def weakManyCard : Claim7 := { stood := { row := weakManyRow, standIns := [], harness := (true, "1481946f80a37d932268d4b69350b1b082522153ba5c82dc53c53ddba40f626d"), looks := true }, kinds := [], alts := [], laidByText := true, laidKinds := [.data, .handle, .sentinel, .sentinel, .sentinel, .sentinel, .sentinel, .sentinel, .sentinel, .sentinel, .sentinel, .sentinel, .sentinel, .sentinel, .sentinel, .sentinel, .sentinel, .sentinel, .sentinel, .sentinel, .sentinel, .sentinel], laidTests := true, laidLooks := .later }
def WeakManyCardSaid : Prop := Claim7.holds Tryz.pinned (.plain (OpenSpec.ofChange weakManySpec)) weakManyCard

/-- THE TIED CARD OF 'semblancelaw13.WeakClasses'. -/
def weakClassesCard : Claim7 := { stood := { row := weakClassesRow, standIns := [], harness := (true, "1481946f80a37d932268d4b69350b1b082522153ba5c82dc53c53ddba40f626d"), looks := true }, kinds := [], alts := [], laidByText := true, laidKinds := [.data, .handle, .sentinel, .sentinel, .sentinel, .sentinel, .sentinel, .sentinel, .sentinel, .sentinel, .sentinel, .sentinel, .sentinel, .sentinel, .sentinel, .sentinel, .sentinel, .sentinel, .sentinel, .sentinel, .sentinel, .sentinel], laidTests := true, laidLooks := .later }
def WeakClassesCardSaid : Prop := Claim7.holds Tryz.pinned (.plain (OpenSpec.ofChange weakClassesSpec)) weakClassesCard

/-- THE TIED CARD OF 'semblancelaw13.WeakCoarser'. -/
def weakCoarserCard : Claim7 := { stood := { row := weakCoarserRow, standIns := [], harness := (true, "1481946f80a37d932268d4b69350b1b082522153ba5c82dc53c53ddba40f626d"), looks := true }, kinds := [], alts := [], laidByText := true, laidKinds := [.data, .data, .data, .handle, .sentinel, .sentinel, .sentinel, .sentinel], laidTests := true, laidLooks := .later }
def WeakCoarserCardSaid : Prop := Claim7.holds Tryz.pinned (.plain (OpenSpec.ofChange weakCoarserSpec)) weakCoarserCard

/-- THE TIED CARD OF 'semblancelaw13.WeakStrong'. -/
def weakStrongCard : Claim7 := { stood := { row := weakStrongRow, standIns := [], harness := (true, "1481946f80a37d932268d4b69350b1b082522153ba5c82dc53c53ddba40f626d"), looks := true }, kinds := [], alts := [], laidByText := true, laidKinds := [.data, .handle, .sentinel, .sentinel, .sentinel, .sentinel, .sentinel, .sentinel], laidTests := true, laidLooks := .later }
def WeakStrongCardSaid : Prop := Claim7.holds Tryz.pinned (.plain (OpenSpec.ofChange weakStrongSpec)) weakStrongCard

/-- THE TIED CARD OF 'semblancelaw19.WitnessPasses'. -/
def witnessPassesCard : Claim7 := { stood := { row := witnessPassesRow, standIns := [], harness := (true, "1481946f80a37d932268d4b69350b1b082522153ba5c82dc53c53ddba40f626d"), looks := true }, kinds := [], alts := [], laidByText := true, laidKinds := [.data, .data, .data, .handle, .sentinel, .sentinel, .sentinel, .sentinel, .sentinel, .sentinel], laidTests := true, laidLooks := .later }
def WitnessPassesCardSaid : Prop := Claim7.holds Tryz.pinned (.plain (OpenSpec.ofChange witnessPassesSpec)) witnessPassesCard

/-- THE TIED CARD OF 'semblancelaw19.WitnessRefuses'. -/
def witnessRefusesCard : Claim7 := { stood := { row := witnessRefusesRow, standIns := [], harness := (true, "1481946f80a37d932268d4b69350b1b082522153ba5c82dc53c53ddba40f626d"), looks := true }, kinds := [], alts := [], laidByText := true, laidKinds := [.data, .data, .data, .handle, .sentinel, .sentinel, .sentinel, .sentinel, .sentinel, .sentinel], laidTests := true, laidLooks := .later }
def WitnessRefusesCardSaid : Prop := Claim7.holds Tryz.pinned (.plain (OpenSpec.ofChange witnessRefusesSpec)) witnessRefusesCard

/-- THE SECOND FORM's CARD OF 'semblancelaw13.WeakSilence'. -/
def weakSilenceUptoCard : Claim7 := { stood := { row := weakSilenceUptoRow, standIns := [], harness := (true, "1481946f80a37d932268d4b69350b1b082522153ba5c82dc53c53ddba40f626d"), looks := true }, kinds := [], alts := [], laidByText := true, laidKinds := [.data, .handle, .sentinel, .sentinel, .sentinel, .sentinel], laidTests := true, laidLooks := .later }
def WeakSilenceUptoCardSaid : Prop := Claim7.holds Tryz.pinned (.plain (OpenSpec.upto weakSilenceSpec)) weakSilenceUptoCard

/-- THE SECOND FORM's CARD OF 'semblancelaw13.WeakMany'. -/
def weakManyUptoCard : Claim7 := { stood := { row := weakManyUptoRow, standIns := [], harness := (true, "1481946f80a37d932268d4b69350b1b082522153ba5c82dc53c53ddba40f626d"), looks := true }, kinds := [], alts := [], laidByText := true, laidKinds := [.data, .handle, .sentinel, .sentinel, .sentinel, .sentinel, .sentinel, .sentinel, .sentinel, .sentinel, .sentinel, .sentinel, .sentinel, .sentinel, .sentinel, .sentinel, .sentinel, .sentinel, .sentinel, .sentinel, .sentinel, .sentinel], laidTests := true, laidLooks := .later }
def WeakManyUptoCardSaid : Prop := Claim7.holds Tryz.pinned (.plain (OpenSpec.upto weakManySpec)) weakManyUptoCard

/-- THE SECOND FORM's CARD OF 'semblancelaw13.WeakClasses'. -/
def weakClassesUptoCard : Claim7 := { stood := { row := weakClassesUptoRow, standIns := [], harness := (true, "1481946f80a37d932268d4b69350b1b082522153ba5c82dc53c53ddba40f626d"), looks := true }, kinds := [], alts := [], laidByText := true, laidKinds := [.data, .handle, .sentinel, .sentinel, .sentinel, .sentinel, .sentinel, .sentinel, .sentinel, .sentinel, .sentinel, .sentinel, .sentinel, .sentinel, .sentinel, .sentinel, .sentinel, .sentinel, .sentinel, .sentinel, .sentinel, .sentinel], laidTests := true, laidLooks := .later }
def WeakClassesUptoCardSaid : Prop := Claim7.holds Tryz.pinned (.plain (OpenSpec.upto weakClassesSpec)) weakClassesUptoCard

/-- THE SECOND FORM's CARD OF 'semblancelaw13.WeakCoarser'. -/
def weakCoarserUptoCard : Claim7 := { stood := { row := weakCoarserUptoRow, standIns := [], harness := (true, "1481946f80a37d932268d4b69350b1b082522153ba5c82dc53c53ddba40f626d"), looks := true }, kinds := [], alts := [], laidByText := true, laidKinds := [.data, .data, .data, .handle, .sentinel, .sentinel, .sentinel, .sentinel], laidTests := true, laidLooks := .later }
def WeakCoarserUptoCardSaid : Prop := Claim7.holds Tryz.pinned (.plain (OpenSpec.upto weakCoarserSpec)) weakCoarserUptoCard

/-- THE SECOND FORM's CARD OF 'semblancelaw13.WeakStrong'. -/
def weakStrongUptoCard : Claim7 := { stood := { row := weakStrongUptoRow, standIns := [], harness := (true, "1481946f80a37d932268d4b69350b1b082522153ba5c82dc53c53ddba40f626d"), looks := true }, kinds := [], alts := [], laidByText := true, laidKinds := [.data, .handle, .sentinel, .sentinel, .sentinel, .sentinel, .sentinel, .sentinel], laidTests := true, laidLooks := .later }
def WeakStrongUptoCardSaid : Prop := Claim7.holds Tryz.pinned (.plain (OpenSpec.upto weakStrongSpec)) weakStrongUptoCard

/-- THE SECOND FORM's CARD OF 'semblancelaw19.WitnessPasses'. -/
def witnessPassesUptoCard : Claim7 := { stood := { row := witnessPassesUptoRow, standIns := [], harness := (true, "1481946f80a37d932268d4b69350b1b082522153ba5c82dc53c53ddba40f626d"), looks := true }, kinds := [], alts := [], laidByText := true, laidKinds := [.data, .data, .data, .handle, .sentinel, .sentinel, .sentinel, .sentinel, .sentinel, .sentinel], laidTests := true, laidLooks := .later }
def WitnessPassesUptoCardSaid : Prop := Claim7.holds Tryz.pinned (.plain (OpenSpec.upto witnessPassesSpec)) witnessPassesUptoCard

/-- THE SECOND FORM's CARD OF 'semblancelaw19.WitnessRefuses'. -/
def witnessRefusesUptoCard : Claim7 := { stood := { row := witnessRefusesUptoRow, standIns := [], harness := (true, "1481946f80a37d932268d4b69350b1b082522153ba5c82dc53c53ddba40f626d"), looks := true }, kinds := [], alts := [], laidByText := true, laidKinds := [.data, .data, .data, .handle, .sentinel, .sentinel, .sentinel, .sentinel, .sentinel, .sentinel], laidTests := true, laidLooks := .later }
def WitnessRefusesUptoCardSaid : Prop := Claim7.holds Tryz.pinned (.plain (OpenSpec.upto witnessRefusesSpec)) witnessRefusesUptoCard
end Rows
end Go.Proofs.YtdhloijdefnkpaaGreatDoor
