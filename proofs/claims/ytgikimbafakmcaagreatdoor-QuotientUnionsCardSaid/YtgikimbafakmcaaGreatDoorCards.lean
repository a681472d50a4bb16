/-
  DERIVED. GIVEN WITH THE SEED: THE CARDS: each row of YtgikimbafakmcaaGreatDoorRows.lean that lists a variable, with what it lists TIED to the program's text (the seventh form; the later family's looks); each row that meets fmt, with fmt's text TOLD by the authors' own Lean function (tested against real Go, not proved from fmt's source: count such statements apart). THE CARD IS WHAT COUNTS. Prove the row's statement (the work); the ties are given (YtgikimbafakmcaaGreatDoorTie.lean); close each card by the builder's one call (the guide's Derived/Test/ToyasCard.lean, 'card_holds'). Laid BY PROGRAM, IN A SANDBOX (cutbox-door.mjs). By AI agents, Wed Nov 11 2026. No macro, syntax, notation, axiom, sorry.
-/
import Derived.Test.YtgikimbafakmcaaGreatDoorRows
import GoSem.ClaimSeven
namespace Go.Proofs.YtgikimbafakmcaaGreatDoor
namespace Rows

/-- THE TIED CARD OF 'semblancelaw14.QuotientUnions'. -/
def quotientUnionsCard : Claim7 := { stood := { row := quotientUnionsRow, standIns := [], harness := (true, "51aadbcde75febec3d8a05ccc26507b10d0c477c0f3ddc5e72d2e13c586a0acf"), looks := true }, kinds := [], alts := [], laidByText := true, laidKinds := [.handle, .sentinel, .sentinel, .sentinel, .sentinel, .sentinel, .sentinel, .sentinel, .sentinel, .sentinel, .sentinel, .sentinel, .sentinel, .sentinel, .sentinel, .sentinel, .sentinel, .sentinel, .sentinel, .sentinel], laidTests := true, laidLooks := .later }
def QuotientUnionsCardSaid : Prop := Claim7.holds Tryz.pinned (.plain (OpenSpec.ofChange quotientUnionsSpec)) quotientUnionsCard

/-- THE SECOND FORM's CARD OF 'semblancelaw14.QuotientUnions'. -/
def quotientUnionsUptoCard : Claim7 := { stood := { row := quotientUnionsUptoRow, standIns := [], harness := (true, "51aadbcde75febec3d8a05ccc26507b10d0c477c0f3ddc5e72d2e13c586a0acf"), looks := true }, kinds := [], alts := [], laidByText := true, laidKinds := [.handle, .sentinel, .sentinel, .sentinel, .sentinel, .sentinel, .sentinel, .sentinel, .sentinel, .sentinel, .sentinel, .sentinel, .sentinel, .sentinel, .sentinel, .sentinel, .sentinel, .sentinel, .sentinel, .sentinel], laidTests := true, laidLooks := .later }
def QuotientUnionsUptoCardSaid : Prop := Claim7.holds Tryz.pinned (.plain (OpenSpec.upto quotientUnionsSpec)) quotientUnionsUptoCard
end Rows
end Go.Proofs.YtgikimbafakmcaaGreatDoor
