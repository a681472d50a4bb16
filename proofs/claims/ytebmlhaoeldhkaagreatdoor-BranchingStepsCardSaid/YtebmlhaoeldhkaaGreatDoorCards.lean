/-
  DERIVED. GIVEN WITH THE SEED: THE CARDS: each row of YtebmlhaoeldhkaaGreatDoorRows.lean that lists a variable, with what it lists TIED to the program's text (the seventh form; the later family's looks); each row that meets fmt, with fmt's text TOLD by the authors' own Lean function (tested against real Go, not proved from fmt's source: count such statements apart). THE CARD IS WHAT COUNTS. Prove the row's statement (the work); the ties are given (YtebmlhaoeldhkaaGreatDoorTie.lean); close each card by the builder's one call (the guide's Derived/Test/ToyasCard.lean, 'card_holds'). Laid BY PROGRAM, IN A SANDBOX (cutbox-door.mjs). By AI agents, Wed Nov 11 2026. No macro, syntax, notation, axiom, sorry.
-/
import Derived.Test.YtebmlhaoeldhkaaGreatDoorRows
import GoSem.ClaimSeven
namespace Go.Proofs.YtebmlhaoeldhkaaGreatDoor
namespace Rows

/-- THE TIED CARD OF 'semblancelaw12.BranchingClasses'. -/
def branchingClassesCard : Claim7 := { stood := { row := branchingClassesRow, standIns := [], harness := (true, "f93ec569f11fd92a6499c0f7218b4b16fa10caddaa09981412fb62a2ec5cc43f"), looks := true }, kinds := [], alts := [], laidByText := true, laidKinds := [.data, .data, .data, .handle, .sentinel, .sentinel, .sentinel, .sentinel, .sentinel, .sentinel, .sentinel, .sentinel, .sentinel, .sentinel, .sentinel, .sentinel, .sentinel, .sentinel, .sentinel, .sentinel, .sentinel, .sentinel, .sentinel], laidTests := true, laidLooks := .later }
def BranchingClassesCardSaid : Prop := Claim7.holds Tryz.pinned (.plain (OpenSpec.ofChange branchingClassesSpec)) branchingClassesCard

/-- THE TIED CARD OF 'semblancelaw12.BranchingSteps'. -/
def branchingStepsCard : Claim7 := { stood := { row := branchingStepsRow, standIns := [], harness := (true, "f93ec569f11fd92a6499c0f7218b4b16fa10caddaa09981412fb62a2ec5cc43f"), looks := true }, kinds := [], alts := [], laidByText := true, laidKinds := [.data, .data, .data, .handle, .sentinel, .sentinel, .sentinel, .sentinel, .sentinel, .sentinel, .sentinel, .sentinel, .sentinel, .sentinel, .sentinel, .sentinel, .sentinel, .sentinel, .sentinel, .sentinel, .sentinel, .sentinel, .sentinel], laidTests := true, laidLooks := .later }
def BranchingStepsCardSaid : Prop := Claim7.holds Tryz.pinned (.plain (OpenSpec.ofChange branchingStepsSpec)) branchingStepsCard

/-- THE TIED CARD OF 'semblancelaw14.QuotientKinds'. -/
def quotientKindsCard : Claim7 := { stood := { row := quotientKindsRow, standIns := [], harness := (true, "f93ec569f11fd92a6499c0f7218b4b16fa10caddaa09981412fb62a2ec5cc43f"), looks := true }, kinds := [], alts := [], laidByText := true, laidKinds := [.data, .data, .data, .handle, .sentinel, .sentinel, .sentinel, .sentinel, .sentinel, .sentinel, .sentinel, .sentinel, .sentinel, .sentinel, .sentinel, .sentinel, .sentinel, .sentinel, .sentinel, .sentinel, .sentinel, .sentinel, .sentinel], laidTests := true, laidLooks := .later }
def QuotientKindsCardSaid : Prop := Claim7.holds Tryz.pinned (.plain (OpenSpec.ofChange quotientKindsSpec)) quotientKindsCard

/-- THE SECOND FORM's CARD OF 'semblancelaw12.BranchingClasses'. -/
def branchingClassesUptoCard : Claim7 := { stood := { row := branchingClassesUptoRow, standIns := [], harness := (true, "f93ec569f11fd92a6499c0f7218b4b16fa10caddaa09981412fb62a2ec5cc43f"), looks := true }, kinds := [], alts := [], laidByText := true, laidKinds := [.data, .data, .data, .handle, .sentinel, .sentinel, .sentinel, .sentinel, .sentinel, .sentinel, .sentinel, .sentinel, .sentinel, .sentinel, .sentinel, .sentinel, .sentinel, .sentinel, .sentinel, .sentinel, .sentinel, .sentinel, .sentinel], laidTests := true, laidLooks := .later }
def BranchingClassesUptoCardSaid : Prop := Claim7.holds Tryz.pinned (.plain (OpenSpec.upto branchingClassesSpec)) branchingClassesUptoCard

/-- THE SECOND FORM's CARD OF 'semblancelaw12.BranchingSteps'. -/
def branchingStepsUptoCard : Claim7 := { stood := { row := branchingStepsUptoRow, standIns := [], harness := (true, "f93ec569f11fd92a6499c0f7218b4b16fa10caddaa09981412fb62a2ec5cc43f"), looks := true }, kinds := [], alts := [], laidByText := true, laidKinds := [.data, .data, .data, .handle, .sentinel, .sentinel, .sentinel, .sentinel, .sentinel, .sentinel, .sentinel, .sentinel, .sentinel, .sentinel, .sentinel, .sentinel, .sentinel, .sentinel, .sentinel, .sentinel, .sentinel, .sentinel, .sentinel], laidTests := true, laidLooks := .later }
def BranchingStepsUptoCardSaid : Prop := Claim7.holds Tryz.pinned (.plain (OpenSpec.upto branchingStepsSpec)) branchingStepsUptoCard

/-- THE SECOND FORM's CARD OF 'semblancelaw14.QuotientKinds'. -/
def quotientKindsUptoCard : Claim7 := { stood := { row := quotientKindsUptoRow, standIns := [], harness := (true, "f93ec569f11fd92a6499c0f7218b4b16fa10caddaa09981412fb62a2ec5cc43f"), looks := true }, kinds := [], alts := [], laidByText := true, laidKinds := [.data, .data, .data, .handle, .sentinel, .sentinel, .sentinel, .sentinel, .sentinel, .sentinel, .sentinel, .sentinel, .sentinel, .sentinel, .sentinel, .sentinel, .sentinel, .sentinel, .sentinel, .sentinel, .sentinel, .sentinel, .sentinel], laidTests := true, laidLooks := .later }
def QuotientKindsUptoCardSaid : Prop := Claim7.holds Tryz.pinned (.plain (OpenSpec.upto quotientKindsSpec)) quotientKindsUptoCard
end Rows
end Go.Proofs.YtebmlhaoeldhkaaGreatDoor
