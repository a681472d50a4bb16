/-
  DERIVED. GIVEN WITH THE SEED: THE CARDS: each row of YtmlmjhmdjieigaaGreatDoorRows.lean that lists a variable, with what it lists TIED to the program's text (the seventh form; the later family's looks); each row that meets fmt, with fmt's text TOLD by the authors' own Lean function (tested against real Go, not proved from fmt's source: count such statements apart). THE CARD IS WHAT COUNTS. Prove the row's statement (the work); the ties are given (YtmlmjhmdjieigaaGreatDoorTie.lean); close each card by the builder's one call (the guide's Derived/Test/ToyasCard.lean, 'card_holds'). Laid BY PROGRAM, IN A SANDBOX (cutbox-door.mjs). By AI agents, Wed Nov 11 2026. No macro, syntax, notation, axiom, sorry.
-/
import Derived.Test.YtmlmjhmdjieigaaGreatDoorRows
import GoSem.ClaimSeven
namespace Go.Proofs.YtmlmjhmdjieigaaGreatDoor
namespace Rows

/-- THE TIED CARD OF 'semblancelaw12.BranchingSame'. -/
def branchingSameCard : Claim7 := { stood := { row := branchingSameRow, standIns := [], harness := (true, "88e62263e40391d22c249b9d01fe64fe81a683a0407ff96259a6d0edbaa387ca"), looks := true }, kinds := [], alts := [], laidByText := true, laidKinds := [.data, .data, .data, .handle, .sentinel, .sentinel], laidTests := true, laidLooks := .later }
def BranchingSameCardSaid : Prop := Claim7.holds Tryz.pinned (.plain (OpenSpec.ofChange branchingSameSpec)) branchingSameCard

/-- THE TIED CARD OF 'semblancelaw14.QuotientLeast'. -/
def quotientLeastCard : Claim7 := { stood := { row := quotientLeastRow, standIns := [], harness := (true, "88e62263e40391d22c249b9d01fe64fe81a683a0407ff96259a6d0edbaa387ca"), looks := true }, kinds := [], alts := [], laidByText := true, laidKinds := [.data, .data, .data, .handle, .sentinel, .sentinel, .sentinel, .sentinel], laidTests := true, laidLooks := .later }
def QuotientLeastCardSaid : Prop := Claim7.holds Tryz.pinned (.plain (OpenSpec.ofChange quotientLeastSpec)) quotientLeastCard

/-- THE TIED CARD OF 'semblancelaw14.QuotientTwice'. -/
def quotientTwiceCard : Claim7 := { stood := { row := quotientTwiceRow, standIns := [], harness := (true, "88e62263e40391d22c249b9d01fe64fe81a683a0407ff96259a6d0edbaa387ca"), looks := true }, kinds := [], alts := [], laidByText := true, laidKinds := [.data, .data, .data, .handle, .sentinel, .sentinel, .sentinel, .sentinel], laidTests := true, laidLooks := .later }
def QuotientTwiceCardSaid : Prop := Claim7.holds Tryz.pinned (.plain (OpenSpec.ofChange quotientTwiceSpec)) quotientTwiceCard

/-- THE TIED CARD OF 'semblancelaw14.QuotientAlike'. -/
def quotientAlikeCard : Claim7 := { stood := { row := quotientAlikeRow, standIns := [], harness := (true, "88e62263e40391d22c249b9d01fe64fe81a683a0407ff96259a6d0edbaa387ca"), looks := true }, kinds := [], alts := [], laidByText := true, laidKinds := [.data, .data, .data, .handle, .sentinel, .sentinel, .sentinel, .sentinel, .sentinel, .sentinel, .sentinel, .sentinel, .sentinel, .sentinel, .sentinel, .sentinel, .sentinel, .sentinel, .sentinel, .sentinel, .sentinel, .sentinel, .sentinel], laidTests := true, laidLooks := .later }
def QuotientAlikeCardSaid : Prop := Claim7.holds Tryz.pinned (.plain (OpenSpec.ofChange quotientAlikeSpec)) quotientAlikeCard

/-- THE SECOND FORM's CARD OF 'semblancelaw12.BranchingSame'. -/
def branchingSameUptoCard : Claim7 := { stood := { row := branchingSameUptoRow, standIns := [], harness := (true, "88e62263e40391d22c249b9d01fe64fe81a683a0407ff96259a6d0edbaa387ca"), looks := true }, kinds := [], alts := [], laidByText := true, laidKinds := [.data, .data, .data, .handle, .sentinel, .sentinel], laidTests := true, laidLooks := .later }
def BranchingSameUptoCardSaid : Prop := Claim7.holds Tryz.pinned (.plain (OpenSpec.upto branchingSameSpec)) branchingSameUptoCard

/-- THE SECOND FORM's CARD OF 'semblancelaw14.QuotientLeast'. -/
def quotientLeastUptoCard : Claim7 := { stood := { row := quotientLeastUptoRow, standIns := [], harness := (true, "88e62263e40391d22c249b9d01fe64fe81a683a0407ff96259a6d0edbaa387ca"), looks := true }, kinds := [], alts := [], laidByText := true, laidKinds := [.data, .data, .data, .handle, .sentinel, .sentinel, .sentinel, .sentinel], laidTests := true, laidLooks := .later }
def QuotientLeastUptoCardSaid : Prop := Claim7.holds Tryz.pinned (.plain (OpenSpec.upto quotientLeastSpec)) quotientLeastUptoCard

/-- THE SECOND FORM's CARD OF 'semblancelaw14.QuotientTwice'. -/
def quotientTwiceUptoCard : Claim7 := { stood := { row := quotientTwiceUptoRow, standIns := [], harness := (true, "88e62263e40391d22c249b9d01fe64fe81a683a0407ff96259a6d0edbaa387ca"), looks := true }, kinds := [], alts := [], laidByText := true, laidKinds := [.data, .data, .data, .handle, .sentinel, .sentinel, .sentinel, .sentinel], laidTests := true, laidLooks := .later }
def QuotientTwiceUptoCardSaid : Prop := Claim7.holds Tryz.pinned (.plain (OpenSpec.upto quotientTwiceSpec)) quotientTwiceUptoCard

/-- THE SECOND FORM's CARD OF 'semblancelaw14.QuotientAlike'. -/
def quotientAlikeUptoCard : Claim7 := { stood := { row := quotientAlikeUptoRow, standIns := [], harness := (true, "88e62263e40391d22c249b9d01fe64fe81a683a0407ff96259a6d0edbaa387ca"), looks := true }, kinds := [], alts := [], laidByText := true, laidKinds := [.data, .data, .data, .handle, .sentinel, .sentinel, .sentinel, .sentinel, .sentinel, .sentinel, .sentinel, .sentinel, .sentinel, .sentinel, .sentinel, .sentinel, .sentinel, .sentinel, .sentinel, .sentinel, .sentinel, .sentinel, .sentinel], laidTests := true, laidLooks := .later }
def QuotientAlikeUptoCardSaid : Prop := Claim7.holds Tryz.pinned (.plain (OpenSpec.upto quotientAlikeSpec)) quotientAlikeUptoCard
end Rows
end Go.Proofs.YtmlmjhmdjieigaaGreatDoor
