/-
  DERIVED. GIVEN WITH THE SEED: THE CARDS: each row of YtjchdegapadepaaGreatDoorRows.lean that lists a variable, with what it lists TIED to the program's text (the seventh form; the later family's looks); each row that meets fmt, with fmt's text TOLD by the authors' own Lean function (tested against real Go, not proved from fmt's source: count such statements apart). THE CARD IS WHAT COUNTS. Prove the row's statement (the work); the ties are given (YtjchdegapadepaaGreatDoorTie.lean); close each card by the builder's one call (the guide's Derived/Test/ToyasCard.lean, 'card_holds'). Laid BY PROGRAM, IN A SANDBOX (cutbox-door.mjs). By AI agents, Wed Nov 11 2026. No macro, syntax, notation, axiom, sorry.
-/
import Derived.Test.YtjchdegapadepaaGreatDoorRows
import GoSem.ClaimSeven
namespace Go.Proofs.YtjchdegapadepaaGreatDoor
namespace Rows

/-- THE TIED CARD OF 'semblancelaw14.QuotientKinds'. -/
def quotientKindsCard : Claim7 := { stood := { row := quotientKindsRow, standIns := [], harness := (true, "bb538f4ebb3da9d87acc4449901b0be650cb3402f1dd256ab5820c19a5104bd6"), looks := true }, kinds := [], alts := [], laidByText := true, laidKinds := [.data, .data, .data, .handle, .sentinel, .sentinel, .sentinel, .sentinel, .sentinel, .sentinel, .sentinel, .sentinel, .sentinel, .sentinel, .sentinel, .sentinel, .sentinel, .sentinel, .sentinel, .sentinel, .sentinel, .sentinel, .sentinel], laidTests := true, laidLooks := .later }
def QuotientKindsCardSaid : Prop := Claim7.holds Tryz.pinned (.plain (OpenSpec.ofChange quotientKindsSpec)) quotientKindsCard

/-- THE SECOND FORM's CARD OF 'semblancelaw14.QuotientKinds'. -/
def quotientKindsUptoCard : Claim7 := { stood := { row := quotientKindsUptoRow, standIns := [], harness := (true, "bb538f4ebb3da9d87acc4449901b0be650cb3402f1dd256ab5820c19a5104bd6"), looks := true }, kinds := [], alts := [], laidByText := true, laidKinds := [.data, .data, .data, .handle, .sentinel, .sentinel, .sentinel, .sentinel, .sentinel, .sentinel, .sentinel, .sentinel, .sentinel, .sentinel, .sentinel, .sentinel, .sentinel, .sentinel, .sentinel, .sentinel, .sentinel, .sentinel, .sentinel], laidTests := true, laidLooks := .later }
def QuotientKindsUptoCardSaid : Prop := Claim7.holds Tryz.pinned (.plain (OpenSpec.upto quotientKindsSpec)) quotientKindsUptoCard
end Rows
end Go.Proofs.YtjchdegapadepaaGreatDoor
