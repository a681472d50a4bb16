/-
  DERIVED. GIVEN WITH THE SEED: THE CARDS: each row of YtopnedihknjjfaaGreatDoorRows.lean that lists a variable, with what it lists TIED to the program's text (the seventh form; the later family's looks); each row that meets fmt, with fmt's text TOLD by the authors' own Lean function (tested against real Go, not proved from fmt's source: count such statements apart). THE CARD IS WHAT COUNTS. Prove the row's statement (the work); the ties are given (YtopnedihknjjfaaGreatDoorTie.lean); close each card by the builder's one call (the guide's Derived/Test/ToyasCard.lean, 'card_holds'). Laid BY PROGRAM, IN A SANDBOX (cutbox-door.mjs). By AI agents, Wed Nov 11 2026. No macro, syntax, notation, axiom, sorry.
-/
import Derived.Test.YtopnedihknjjfaaGreatDoorRows
import GoSem.ClaimSeven
namespace Go.Proofs.YtopnedihknjjfaaGreatDoor
namespace Rows

/-- THE TIED CARD OF 'semblancelaw12.BranchingCollapsed'. -/
def branchingCollapsedCard : Claim7 := { stood := { row := branchingCollapsedRow, standIns := [], harness := (true, "d06191f59619b6f7a3ed114ce5866b300852b1e99b72d364a68c0710e625d302"), looks := true }, kinds := [], alts := [], laidByText := true, laidKinds := [.data, .data, .data, .handle, .sentinel, .sentinel], laidTests := true, laidLooks := .later }
def BranchingCollapsedCardSaid : Prop := Claim7.holds Tryz.pinned (.plain (OpenSpec.ofChange branchingCollapsedSpec)) branchingCollapsedCard

/-- THE TIED CARD OF 'semblancelaw12.BranchingAhead'. -/
def branchingAheadCard : Claim7 := { stood := { row := branchingAheadRow, standIns := [], harness := (true, "d06191f59619b6f7a3ed114ce5866b300852b1e99b72d364a68c0710e625d302"), looks := true }, kinds := [], alts := [], laidByText := true, laidKinds := [.data, .data, .data, .handle, .sentinel, .sentinel], laidTests := true, laidLooks := .later }
def BranchingAheadCardSaid : Prop := Claim7.holds Tryz.pinned (.plain (OpenSpec.ofChange branchingAheadSpec)) branchingAheadCard

/-- THE TIED CARD OF 'semblancelaw12.BranchingRelates'. -/
def branchingRelatesCard : Claim7 := { stood := { row := branchingRelatesRow, standIns := [], harness := (true, "d06191f59619b6f7a3ed114ce5866b300852b1e99b72d364a68c0710e625d302"), looks := true }, kinds := [], alts := [], laidByText := true, laidKinds := [.data, .data, .data, .handle, .sentinel, .sentinel], laidTests := true, laidLooks := .later }
def BranchingRelatesCardSaid : Prop := Claim7.holds Tryz.pinned (.plain (OpenSpec.ofChange branchingRelatesSpec)) branchingRelatesCard

/-- THE TIED CARD OF 'semblancelaw12.BranchingSame'. -/
def branchingSameCard : Claim7 := { stood := { row := branchingSameRow, standIns := [], harness := (true, "d06191f59619b6f7a3ed114ce5866b300852b1e99b72d364a68c0710e625d302"), looks := true }, kinds := [], alts := [], laidByText := true, laidKinds := [.data, .data, .data, .handle, .sentinel, .sentinel], laidTests := true, laidLooks := .later }
def BranchingSameCardSaid : Prop := Claim7.holds Tryz.pinned (.plain (OpenSpec.ofChange branchingSameSpec)) branchingSameCard

/-- THE TIED CARD OF 'semblancelaw14.QuotientSame'. -/
def quotientSameCard : Claim7 := { stood := { row := quotientSameRow, standIns := [], harness := (true, "d06191f59619b6f7a3ed114ce5866b300852b1e99b72d364a68c0710e625d302"), looks := true }, kinds := [], alts := [], laidByText := true, laidKinds := [.handle, .sentinel, .sentinel, .sentinel, .sentinel], laidTests := true, laidLooks := .later }
def QuotientSameCardSaid : Prop := Claim7.holds Tryz.pinned (.plain (OpenSpec.ofChange quotientSameSpec)) quotientSameCard

/-- THE TIED CARD OF 'semblancelaw12.BranchingCoarser'. -/
def branchingCoarserCard : Claim7 := { stood := { row := branchingCoarserRow, standIns := [], harness := (true, "d06191f59619b6f7a3ed114ce5866b300852b1e99b72d364a68c0710e625d302"), looks := true }, kinds := [], alts := [], laidByText := true, laidKinds := [.data, .data, .data, .handle, .sentinel, .sentinel, .sentinel, .sentinel], laidTests := true, laidLooks := .later }
def BranchingCoarserCardSaid : Prop := Claim7.holds Tryz.pinned (.plain (OpenSpec.ofChange branchingCoarserSpec)) branchingCoarserCard

/-- THE TIED CARD OF 'semblancelaw14.QuotientLeast'. -/
def quotientLeastCard : Claim7 := { stood := { row := quotientLeastRow, standIns := [], harness := (true, "d06191f59619b6f7a3ed114ce5866b300852b1e99b72d364a68c0710e625d302"), looks := true }, kinds := [], alts := [], laidByText := true, laidKinds := [.data, .data, .data, .handle, .sentinel, .sentinel, .sentinel, .sentinel], laidTests := true, laidLooks := .later }
def QuotientLeastCardSaid : Prop := Claim7.holds Tryz.pinned (.plain (OpenSpec.ofChange quotientLeastSpec)) quotientLeastCard

/-- THE TIED CARD OF 'semblancelaw14.QuotientTwice'. -/
def quotientTwiceCard : Claim7 := { stood := { row := quotientTwiceRow, standIns := [], harness := (true, "d06191f59619b6f7a3ed114ce5866b300852b1e99b72d364a68c0710e625d302"), looks := true }, kinds := [], alts := [], laidByText := true, laidKinds := [.data, .data, .data, .handle, .sentinel, .sentinel, .sentinel, .sentinel], laidTests := true, laidLooks := .later }
def QuotientTwiceCardSaid : Prop := Claim7.holds Tryz.pinned (.plain (OpenSpec.ofChange quotientTwiceSpec)) quotientTwiceCard

/-- THE TIED CARD OF 'semblancelaw14.QuotientAlike'. -/
def quotientAlikeCard : Claim7 := { stood := { row := quotientAlikeRow, standIns := [], harness := (true, "d06191f59619b6f7a3ed114ce5866b300852b1e99b72d364a68c0710e625d302"), looks := true }, kinds := [], alts := [], laidByText := true, laidKinds := [.data, .data, .data, .handle, .sentinel, .sentinel, .sentinel, .sentinel, .sentinel, .sentinel, .sentinel, .sentinel, .sentinel, .sentinel, .sentinel, .sentinel, .sentinel, .sentinel, .sentinel, .sentinel, .sentinel, .sentinel, .sentinel], laidTests := true, laidLooks := .later }
def QuotientAlikeCardSaid : Prop := Claim7.holds Tryz.pinned (.plain (OpenSpec.ofChange quotientAlikeSpec)) quotientAlikeCard

/-- THE SECOND FORM's CARD OF 'semblancelaw12.BranchingCollapsed'. -/
def branchingCollapsedUptoCard : Claim7 := { stood := { row := branchingCollapsedUptoRow, standIns := [], harness := (true, "d06191f59619b6f7a3ed114ce5866b300852b1e99b72d364a68c0710e625d302"), looks := true }, kinds := [], alts := [], laidByText := true, laidKinds := [.data, .data, .data, .handle, .sentinel, .sentinel], laidTests := true, laidLooks := .later }
def BranchingCollapsedUptoCardSaid : Prop := Claim7.holds Tryz.pinned (.plain (OpenSpec.upto branchingCollapsedSpec)) branchingCollapsedUptoCard

/-- THE SECOND FORM's CARD OF 'semblancelaw12.BranchingAhead'. -/
def branchingAheadUptoCard : Claim7 := { stood := { row := branchingAheadUptoRow, standIns := [], harness := (true, "d06191f59619b6f7a3ed114ce5866b300852b1e99b72d364a68c0710e625d302"), looks := true }, kinds := [], alts := [], laidByText := true, laidKinds := [.data, .data, .data, .handle, .sentinel, .sentinel], laidTests := true, laidLooks := .later }
def BranchingAheadUptoCardSaid : Prop := Claim7.holds Tryz.pinned (.plain (OpenSpec.upto branchingAheadSpec)) branchingAheadUptoCard

/-- THE SECOND FORM's CARD OF 'semblancelaw12.BranchingRelates'. -/
def branchingRelatesUptoCard : Claim7 := { stood := { row := branchingRelatesUptoRow, standIns := [], harness := (true, "d06191f59619b6f7a3ed114ce5866b300852b1e99b72d364a68c0710e625d302"), looks := true }, kinds := [], alts := [], laidByText := true, laidKinds := [.data, .data, .data, .handle, .sentinel, .sentinel], laidTests := true, laidLooks := .later }
def BranchingRelatesUptoCardSaid : Prop := Claim7.holds Tryz.pinned (.plain (OpenSpec.upto branchingRelatesSpec)) branchingRelatesUptoCard

/-- THE SECOND FORM's CARD OF 'semblancelaw12.BranchingSame'. -/
def branchingSameUptoCard : Claim7 := { stood := { row := branchingSameUptoRow, standIns := [], harness := (true, "d06191f59619b6f7a3ed114ce5866b300852b1e99b72d364a68c0710e625d302"), looks := true }, kinds := [], alts := [], laidByText := true, laidKinds := [.data, .data, .data, .handle, .sentinel, .sentinel], laidTests := true, laidLooks := .later }
def BranchingSameUptoCardSaid : Prop := Claim7.holds Tryz.pinned (.plain (OpenSpec.upto branchingSameSpec)) branchingSameUptoCard

/-- THE SECOND FORM's CARD OF 'semblancelaw14.QuotientSame'. -/
def quotientSameUptoCard : Claim7 := { stood := { row := quotientSameUptoRow, standIns := [], harness := (true, "d06191f59619b6f7a3ed114ce5866b300852b1e99b72d364a68c0710e625d302"), looks := true }, kinds := [], alts := [], laidByText := true, laidKinds := [.handle, .sentinel, .sentinel, .sentinel, .sentinel], laidTests := true, laidLooks := .later }
def QuotientSameUptoCardSaid : Prop := Claim7.holds Tryz.pinned (.plain (OpenSpec.upto quotientSameSpec)) quotientSameUptoCard

/-- THE SECOND FORM's CARD OF 'semblancelaw12.BranchingCoarser'. -/
def branchingCoarserUptoCard : Claim7 := { stood := { row := branchingCoarserUptoRow, standIns := [], harness := (true, "d06191f59619b6f7a3ed114ce5866b300852b1e99b72d364a68c0710e625d302"), looks := true }, kinds := [], alts := [], laidByText := true, laidKinds := [.data, .data, .data, .handle, .sentinel, .sentinel, .sentinel, .sentinel], laidTests := true, laidLooks := .later }
def BranchingCoarserUptoCardSaid : Prop := Claim7.holds Tryz.pinned (.plain (OpenSpec.upto branchingCoarserSpec)) branchingCoarserUptoCard

/-- THE SECOND FORM's CARD OF 'semblancelaw14.QuotientLeast'. -/
def quotientLeastUptoCard : Claim7 := { stood := { row := quotientLeastUptoRow, standIns := [], harness := (true, "d06191f59619b6f7a3ed114ce5866b300852b1e99b72d364a68c0710e625d302"), looks := true }, kinds := [], alts := [], laidByText := true, laidKinds := [.data, .data, .data, .handle, .sentinel, .sentinel, .sentinel, .sentinel], laidTests := true, laidLooks := .later }
def QuotientLeastUptoCardSaid : Prop := Claim7.holds Tryz.pinned (.plain (OpenSpec.upto quotientLeastSpec)) quotientLeastUptoCard

/-- THE SECOND FORM's CARD OF 'semblancelaw14.QuotientTwice'. -/
def quotientTwiceUptoCard : Claim7 := { stood := { row := quotientTwiceUptoRow, standIns := [], harness := (true, "d06191f59619b6f7a3ed114ce5866b300852b1e99b72d364a68c0710e625d302"), looks := true }, kinds := [], alts := [], laidByText := true, laidKinds := [.data, .data, .data, .handle, .sentinel, .sentinel, .sentinel, .sentinel], laidTests := true, laidLooks := .later }
def QuotientTwiceUptoCardSaid : Prop := Claim7.holds Tryz.pinned (.plain (OpenSpec.upto quotientTwiceSpec)) quotientTwiceUptoCard

/-- THE SECOND FORM's CARD OF 'semblancelaw14.QuotientAlike'. -/
def quotientAlikeUptoCard : Claim7 := { stood := { row := quotientAlikeUptoRow, standIns := [], harness := (true, "d06191f59619b6f7a3ed114ce5866b300852b1e99b72d364a68c0710e625d302"), looks := true }, kinds := [], alts := [], laidByText := true, laidKinds := [.data, .data, .data, .handle, .sentinel, .sentinel, .sentinel, .sentinel, .sentinel, .sentinel, .sentinel, .sentinel, .sentinel, .sentinel, .sentinel, .sentinel, .sentinel, .sentinel, .sentinel, .sentinel, .sentinel, .sentinel, .sentinel], laidTests := true, laidLooks := .later }
def QuotientAlikeUptoCardSaid : Prop := Claim7.holds Tryz.pinned (.plain (OpenSpec.upto quotientAlikeSpec)) quotientAlikeUptoCard
end Rows
end Go.Proofs.YtopnedihknjjfaaGreatDoor
