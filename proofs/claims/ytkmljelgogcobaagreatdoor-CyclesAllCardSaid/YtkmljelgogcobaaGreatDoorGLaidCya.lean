/-
  What the list errorType, ErrArg, ErrLong, ErrIndex, ErrWord, ErrSyntax, ErrDeep, ErrTwice, ErrUnknown, ErrSilent, ErrUnguarded, ErrSteps, ErrStates, ErrEdges, ErrSystem, ErrClasses, ErrFormula, ErrLimit, ErrNone, ErrScript of a row gives; a world for the witness.
  system.with: where steps of a label lead.
  The graph's methods: own, States, Labels, Start, Out, In, By, From, Edges.
  The world in which a system's edges grow.
  cmp.Compare, cmp.Or, system.order: the order of edges.
  slices.SortFunc at edges, by the shelf's contract; system.Sorted: the normal form of a list of edges.
  system.Check: nil of a system that is one, a fault of any other.
  system.newRows, with the closures of system.New: rows of steps, one behind the other.
-/
import Derived.Test.YtkmljelgogcobaaGreatDoorGAs
import Derived.Stop.LaidTwo
import Derived.Lib.LaidTab
import Derived.Lib.ItoaNum
import Derived.Test.YtkmljelgogcobaaGreatDoorGPl3
import Derived.Test.YtkmljelgogcobaaGreatDoorGBase
import Derived.Deep.Cut
import Derived.Sort.Grow
import Derived.Deep.QuietTactic
import Derived.BigQuiet
import Derived.Deep.RegionHeld3
import Derived.Deep.RegionWith
import Derived.Test.YtkmljelgogcobaaGreatDoorShelf
import Derived.Test.YtkmljelgogcobaaGreatDoorCompact2
import Derived.Test.YtkmljelgogcobaaGreatDoorGPl1
import Derived.Sort.OwnSortedInts
import Derived.Deep.RegionHeldLaw
import Derived.Deep.OwnRows
import Derived.IntWalk
import Derived.Deep.CutRange
import Derived.Deep.RegionLaw
namespace Go.Proofs.YtkmljelgogcobaaGreatDoor
open Go.ChangeShapes Go.WideShapes Go.ChangeAt Go.RowKit Go.Lib

def laidCya : List (String × DataW Unit) := [("errors.errorType", Rows.laid_errors_errorType), ("semblance/api.ErrArg", Rows.laid_semblance_api_ErrArg), ("semblance/api.ErrLong", Rows.laid_semblance_api_ErrLong), ("semblance/api.ErrIndex", Rows.laid_semblance_api_ErrIndex), ("semblance/api.ErrWord", Rows.laid_semblance_api_ErrWord), ("semblance/api.ErrSyntax", Rows.laid_semblance_api_ErrSyntax), ("semblance/api.ErrDeep", Rows.laid_semblance_api_ErrDeep), ("semblance/api.ErrTwice", Rows.laid_semblance_api_ErrTwice), ("semblance/api.ErrUnknown", Rows.laid_semblance_api_ErrUnknown), ("semblance/api.ErrSilent", Rows.laid_semblance_api_ErrSilent), ("semblance/api.ErrUnguarded", Rows.laid_semblance_api_ErrUnguarded), ("semblance/api.ErrSteps", Rows.laid_semblance_api_ErrSteps), ("semblance/api.ErrStates", Rows.laid_semblance_api_ErrStates), ("semblance/api.ErrEdges", Rows.laid_semblance_api_ErrEdges), ("semblance/api.ErrSystem", Rows.laid_semblance_api_ErrSystem), ("semblance/api.ErrClasses", Rows.laid_semblance_api_ErrClasses), ("semblance/api.ErrFormula", Rows.laid_semblance_api_ErrFormula), ("semblance/api.ErrLimit", Rows.laid_semblance_api_ErrLimit), ("semblance/api.ErrNone", Rows.laid_semblance_api_ErrNone), ("semblance/api.ErrScript", Rows.laid_semblance_api_ErrScript)]
noncomputable def laidWorldCya (os : Os) : World :=
  let N := (World.settled Tryz.prog os).heap.size
  let w0 := World.holding Tryz.prog os ⟨#[.cells #[.string ⟨([97, 110, 32, 97, 114, 103, 117, 109, 101, 110, 116, 32, 116, 104, 97, 116, 32, 99, 97, 110, 39, 116, 32, 98, 101] : List UInt8).toArray⟩] 268, .cells #[.string ⟨([116, 111, 111, 32, 108, 111, 110, 103, 44, 32, 111, 114, 32, 116, 111, 111, 32, 109, 97, 110, 121] : List UInt8).toArray⟩] 268, .cells #[.string ⟨([97, 32, 110, 117, 109, 98, 101, 114, 32, 116, 104, 97, 116, 32, 105, 115, 32, 110, 111, 116, 32, 116, 104, 101, 114, 101] : List UInt8).toArray⟩] 268, .cells #[.string ⟨([97, 32, 99, 104, 97, 114, 97, 99, 116, 101, 114, 32, 116, 104, 97, 116, 32, 98, 101, 103, 105, 110, 115, 32, 110, 111, 32, 119, 111, 114, 100] : List UInt8).toArray⟩] 268, .cells #[.string ⟨([97, 32, 119, 111, 114, 100, 32, 116, 104, 97, 116, 32, 99, 97, 110, 39, 116, 32, 115, 116, 97, 110, 100, 32, 116, 104, 101, 114, 101] : List UInt8).toArray⟩] 268, .cells #[.string ⟨([98, 114, 97, 99, 107, 101, 116, 115, 32, 116, 104, 97, 116, 32, 115, 116, 97, 110, 100, 32, 116, 111, 111, 32, 100, 101, 101, 112] : List UInt8).toArray⟩] 268, .cells #[.string ⟨([115, 111, 109, 101, 116, 104, 105, 110, 103, 32, 116, 104, 97, 116, 32, 115, 116, 97, 110, 100, 115, 32, 116, 104, 101, 114, 101, 32, 97, 108, 114, 101, 97, 100, 121] : List UInt8).toArray⟩] 268, .cells #[.string ⟨([97, 32, 110, 97, 109, 101, 32, 116, 104, 97, 116, 32, 105, 115, 32, 110, 111, 116, 32, 116, 104, 101, 114, 101] : List UInt8).toArray⟩] 268, .cells #[.string ⟨([116, 104, 101, 32, 115, 105, 108, 101, 110, 116, 32, 97, 99, 116, 105, 111, 110, 44, 32, 119, 104, 101, 114, 101, 32, 105, 116, 32, 99, 97, 110, 39, 116, 32, 115, 116, 97, 110, 100] : List UInt8).toArray⟩] 268, .cells #[.string ⟨([97, 32, 99, 111, 110, 115, 116, 97, 110, 116, 32, 116, 104, 97, 116, 32, 110, 101, 101, 100, 115, 32, 105, 116, 115, 101, 108, 102, 32, 102, 105, 114, 115, 116] : List UInt8).toArray⟩] 268, .cells #[.string ⟨([97, 32, 116, 101, 114, 109, 32, 119, 105, 116, 104, 32, 116, 111, 111, 32, 109, 97, 110, 121, 32, 115, 116, 101, 112, 115] : List UInt8).toArray⟩] 268, .cells #[.string ⟨([116, 111, 111, 32, 109, 97, 110, 121, 32, 115, 116, 97, 116, 101, 115] : List UInt8).toArray⟩] 268, .cells #[.string ⟨([116, 111, 111, 32, 109, 97, 110, 121, 32, 101, 100, 103, 101, 115] : List UInt8).toArray⟩] 268, .cells #[.string ⟨([97, 32, 115, 121, 115, 116, 101, 109, 32, 116, 104, 97, 116, 32, 105, 115, 32, 110, 111, 110, 101] : List UInt8).toArray⟩] 268, .cells #[.string ⟨([99, 108, 97, 115, 115, 101, 115, 32, 116, 104, 97, 116, 32, 97, 114, 101, 32, 110, 111, 110, 101] : List UInt8).toArray⟩] 268, .cells #[.string ⟨([97, 32, 102, 111, 114, 109, 117, 108, 97, 32, 116, 104, 97, 116, 32, 105, 115, 32, 110, 111, 110, 101] : List UInt8).toArray⟩] 268, .cells #[.string ⟨([97, 32, 102, 111, 114, 109, 117, 108, 97, 32, 116, 104, 97, 116, 32, 119, 111, 117, 108, 100, 32, 98, 101, 32, 116, 111, 111, 32, 103, 114, 101, 97, 116] : List UInt8).toArray⟩] 268, .cells #[.string ⟨([116, 104, 101, 114, 101, 32, 105, 115, 32, 110, 111, 110, 101] : List UInt8).toArray⟩] 268, .cells #[.string ⟨([97, 32, 115, 99, 114, 105, 112, 116, 32, 116, 104, 97, 116, 32, 105, 115, 32, 110, 111, 110, 101] : List UInt8).toArray⟩] 268], #[], []⟩
  let put := fun (h : Array Obj) (g : Nat) (cs : Array Value) => h.modify g fun
      | .cells _ t frozen => .cells cs t frozen
      | o => o
  { w0 with heap := put (put (put (put (put (put (put (put (put (put (put (put (put (put (put (put (put (put (put (put (w0.heap) 11 #[.iface 229 (.agg #[.pointer (some ⟨20, 28, none⟩)])]) 1 #[.iface 248 (.pointer (some ⟨N + 0, 0, none⟩))]) 2 #[.iface 248 (.pointer (some ⟨N + 1, 0, none⟩))]) 3 #[.iface 248 (.pointer (some ⟨N + 2, 0, none⟩))]) 4 #[.iface 248 (.pointer (some ⟨N + 3, 0, none⟩))]) 5 #[.iface 248 (.pointer (some ⟨N + 4, 0, none⟩))]) 6 #[.iface 248 (.pointer (some ⟨N + 5, 0, none⟩))]) 7 #[.iface 248 (.pointer (some ⟨N + 6, 0, none⟩))]) 8 #[.iface 248 (.pointer (some ⟨N + 7, 0, none⟩))]) 9 #[.iface 248 (.pointer (some ⟨N + 8, 0, none⟩))]) 10 #[.iface 248 (.pointer (some ⟨N + 9, 0, none⟩))]) 12 #[.iface 248 (.pointer (some ⟨N + 10, 0, none⟩))]) 13 #[.iface 248 (.pointer (some ⟨N + 11, 0, none⟩))]) 14 #[.iface 248 (.pointer (some ⟨N + 12, 0, none⟩))]) 0 #[.iface 248 (.pointer (some ⟨N + 13, 0, none⟩))]) 15 #[.iface 248 (.pointer (some ⟨N + 14, 0, none⟩))]) 16 #[.iface 248 (.pointer (some ⟨N + 15, 0, none⟩))]) 17 #[.iface 248 (.pointer (some ⟨N + 16, 0, none⟩))]) 18 #[.iface 248 (.pointer (some ⟨N + 17, 0, none⟩))]) 19 #[.iface 248 (.pointer (some ⟨N + 18, 0, none⟩))] }
theorem laidInCya (os : Os) (args : Array Value) : LaidIn Tryz.prog ((laidWorldCya os).forCall (fun _ _ => 0) ⟨#[], args, []⟩).memory [("semblance/api.ErrArg", Rows.laid_semblance_api_ErrArg), ("semblance/api.ErrLong", Rows.laid_semblance_api_ErrLong), ("semblance/api.ErrIndex", Rows.laid_semblance_api_ErrIndex), ("semblance/api.ErrWord", Rows.laid_semblance_api_ErrWord), ("semblance/api.ErrSyntax", Rows.laid_semblance_api_ErrSyntax), ("semblance/api.ErrDeep", Rows.laid_semblance_api_ErrDeep), ("semblance/api.ErrTwice", Rows.laid_semblance_api_ErrTwice), ("semblance/api.ErrUnknown", Rows.laid_semblance_api_ErrUnknown), ("semblance/api.ErrSilent", Rows.laid_semblance_api_ErrSilent), ("semblance/api.ErrUnguarded", Rows.laid_semblance_api_ErrUnguarded), ("semblance/api.ErrSteps", Rows.laid_semblance_api_ErrSteps), ("semblance/api.ErrStates", Rows.laid_semblance_api_ErrStates), ("semblance/api.ErrEdges", Rows.laid_semblance_api_ErrEdges), ("semblance/api.ErrSystem", Rows.laid_semblance_api_ErrSystem), ("semblance/api.ErrClasses", Rows.laid_semblance_api_ErrClasses), ("semblance/api.ErrFormula", Rows.laid_semblance_api_ErrFormula), ("semblance/api.ErrLimit", Rows.laid_semblance_api_ErrLimit), ("semblance/api.ErrNone", Rows.laid_semblance_api_ErrNone), ("semblance/api.ErrScript", Rows.laid_semblance_api_ErrScript)] [1, 2, 3, 4, 5, 6, 7, 8, 9, 10, 12, 13, 14, 0, 15, 16, 17, 18, 19, nBlock + 0, nBlock + 1, nBlock + 2, nBlock + 3, nBlock + 4, nBlock + 5, nBlock + 6, nBlock + 7, nBlock + 8, nBlock + 9, nBlock + 10, nBlock + 11, nBlock + 12, nBlock + 13, nBlock + 14, nBlock + 15, nBlock + 16, nBlock + 17, nBlock + 18] :=
  LaidIn.of_run [1, 2, 3, 4, 5, 6, 7, 8, 9, 10, 12, 13, 14, 0, 15, 16, 17, 18, 19, nBlock + 0, nBlock + 1, nBlock + 2, nBlock + 3, nBlock + 4, nBlock + 5, nBlock + 6, nBlock + 7, nBlock + 8, nBlock + 9, nBlock + 10, nBlock + 11, nBlock + 12, nBlock + 13, nBlock + 14, nBlock + 15, nBlock + 16, nBlock + 17, nBlock + 18] 8 (by kernel_rfl) (by kernel_rfl) (by kernel_rfl) (by kernel_rfl)
theorem laid_metCya (os : Os) (args : Array Value) : laidMetH Tryz.prog laidCya ((laidWorldCya os).forCall (fun _ _ => 0) ⟨#[], args, []⟩).memory :=
  laidMetH_of_parts (laidInCya os args).met (by kernel_rfl)
theorem laidCya_data {W : World} (h : laidMetH Tryz.prog laidCya W) : laidMet Tryz.prog [("semblance/api.ErrArg", Rows.laid_semblance_api_ErrArg), ("semblance/api.ErrLong", Rows.laid_semblance_api_ErrLong), ("semblance/api.ErrIndex", Rows.laid_semblance_api_ErrIndex), ("semblance/api.ErrWord", Rows.laid_semblance_api_ErrWord), ("semblance/api.ErrSyntax", Rows.laid_semblance_api_ErrSyntax), ("semblance/api.ErrDeep", Rows.laid_semblance_api_ErrDeep), ("semblance/api.ErrTwice", Rows.laid_semblance_api_ErrTwice), ("semblance/api.ErrUnknown", Rows.laid_semblance_api_ErrUnknown), ("semblance/api.ErrSilent", Rows.laid_semblance_api_ErrSilent), ("semblance/api.ErrUnguarded", Rows.laid_semblance_api_ErrUnguarded), ("semblance/api.ErrSteps", Rows.laid_semblance_api_ErrSteps), ("semblance/api.ErrStates", Rows.laid_semblance_api_ErrStates), ("semblance/api.ErrEdges", Rows.laid_semblance_api_ErrEdges), ("semblance/api.ErrSystem", Rows.laid_semblance_api_ErrSystem), ("semblance/api.ErrClasses", Rows.laid_semblance_api_ErrClasses), ("semblance/api.ErrFormula", Rows.laid_semblance_api_ErrFormula), ("semblance/api.ErrLimit", Rows.laid_semblance_api_ErrLimit), ("semblance/api.ErrNone", Rows.laid_semblance_api_ErrNone), ("semblance/api.ErrScript", Rows.laid_semblance_api_ErrScript)] W := (show laidMet Tryz.prog [("semblance/api.ErrArg", Rows.laid_semblance_api_ErrArg), ("semblance/api.ErrLong", Rows.laid_semblance_api_ErrLong), ("semblance/api.ErrIndex", Rows.laid_semblance_api_ErrIndex), ("semblance/api.ErrWord", Rows.laid_semblance_api_ErrWord), ("semblance/api.ErrSyntax", Rows.laid_semblance_api_ErrSyntax), ("semblance/api.ErrDeep", Rows.laid_semblance_api_ErrDeep), ("semblance/api.ErrTwice", Rows.laid_semblance_api_ErrTwice), ("semblance/api.ErrUnknown", Rows.laid_semblance_api_ErrUnknown), ("semblance/api.ErrSilent", Rows.laid_semblance_api_ErrSilent), ("semblance/api.ErrUnguarded", Rows.laid_semblance_api_ErrUnguarded), ("semblance/api.ErrSteps", Rows.laid_semblance_api_ErrSteps), ("semblance/api.ErrStates", Rows.laid_semblance_api_ErrStates), ("semblance/api.ErrEdges", Rows.laid_semblance_api_ErrEdges), ("semblance/api.ErrSystem", Rows.laid_semblance_api_ErrSystem), ("semblance/api.ErrClasses", Rows.laid_semblance_api_ErrClasses), ("semblance/api.ErrFormula", Rows.laid_semblance_api_ErrFormula), ("semblance/api.ErrLimit", Rows.laid_semblance_api_ErrLimit), ("semblance/api.ErrNone", Rows.laid_semblance_api_ErrNone), ("semblance/api.ErrScript", Rows.laid_semblance_api_ErrScript)] W ∧ handlesMet Tryz.prog [("errors.errorType", Rows.laid_errors_errorType)] W from h).1
theorem laidCya_errType {W : World} (h : laidMetH Tryz.prog laidCya W) : ErrType W := errType_of (show laidMet Tryz.prog [("semblance/api.ErrArg", Rows.laid_semblance_api_ErrArg), ("semblance/api.ErrLong", Rows.laid_semblance_api_ErrLong), ("semblance/api.ErrIndex", Rows.laid_semblance_api_ErrIndex), ("semblance/api.ErrWord", Rows.laid_semblance_api_ErrWord), ("semblance/api.ErrSyntax", Rows.laid_semblance_api_ErrSyntax), ("semblance/api.ErrDeep", Rows.laid_semblance_api_ErrDeep), ("semblance/api.ErrTwice", Rows.laid_semblance_api_ErrTwice), ("semblance/api.ErrUnknown", Rows.laid_semblance_api_ErrUnknown), ("semblance/api.ErrSilent", Rows.laid_semblance_api_ErrSilent), ("semblance/api.ErrUnguarded", Rows.laid_semblance_api_ErrUnguarded), ("semblance/api.ErrSteps", Rows.laid_semblance_api_ErrSteps), ("semblance/api.ErrStates", Rows.laid_semblance_api_ErrStates), ("semblance/api.ErrEdges", Rows.laid_semblance_api_ErrEdges), ("semblance/api.ErrSystem", Rows.laid_semblance_api_ErrSystem), ("semblance/api.ErrClasses", Rows.laid_semblance_api_ErrClasses), ("semblance/api.ErrFormula", Rows.laid_semblance_api_ErrFormula), ("semblance/api.ErrLimit", Rows.laid_semblance_api_ErrLimit), ("semblance/api.ErrNone", Rows.laid_semblance_api_ErrNone), ("semblance/api.ErrScript", Rows.laid_semblance_api_ErrScript)] W ∧ handlesMet Tryz.prog [("errors.errorType", Rows.laid_errors_errorType)] W from h).2
theorem laidCya_ErrArg {W : World} (h : laidMetH Tryz.prog laidCya W) : ∃ p, GErr 1 p W := gerr_of (n := "semblance/api.ErrArg") (laidMet_subl (.cons_cons _ (List.nil_sublist _)) (laidCya_data h)) (by kernel_rfl) (by kernel_rfl)
theorem laidCya_ErrLong {W : World} (h : laidMetH Tryz.prog laidCya W) : ∃ p, GErr 2 p W := gerr_of (n := "semblance/api.ErrLong") (laidMet_subl (.cons _ (.cons_cons _ (List.nil_sublist _))) (laidCya_data h)) (by kernel_rfl) (by kernel_rfl)
theorem laidCya_ErrIndex {W : World} (h : laidMetH Tryz.prog laidCya W) : ∃ p, GErr 3 p W := gerr_of (n := "semblance/api.ErrIndex") (laidMet_subl (.cons _ (.cons _ (.cons_cons _ (List.nil_sublist _)))) (laidCya_data h)) (by kernel_rfl) (by kernel_rfl)
theorem laidCya_ErrWord {W : World} (h : laidMetH Tryz.prog laidCya W) : ∃ p, GErr 4 p W := gerr_of (n := "semblance/api.ErrWord") (laidMet_subl (.cons _ (.cons _ (.cons _ (.cons_cons _ (List.nil_sublist _))))) (laidCya_data h)) (by kernel_rfl) (by kernel_rfl)
theorem laidCya_ErrSyntax {W : World} (h : laidMetH Tryz.prog laidCya W) : ∃ p, GErr 5 p W := gerr_of (n := "semblance/api.ErrSyntax") (laidMet_subl (.cons _ (.cons _ (.cons _ (.cons _ (.cons_cons _ (List.nil_sublist _)))))) (laidCya_data h)) (by kernel_rfl) (by kernel_rfl)
theorem laidCya_ErrDeep {W : World} (h : laidMetH Tryz.prog laidCya W) : ∃ p, GErr 6 p W := gerr_of (n := "semblance/api.ErrDeep") (laidMet_subl (.cons _ (.cons _ (.cons _ (.cons _ (.cons _ (.cons_cons _ (List.nil_sublist _))))))) (laidCya_data h)) (by kernel_rfl) (by kernel_rfl)
theorem laidCya_ErrTwice {W : World} (h : laidMetH Tryz.prog laidCya W) : ∃ p, GErr 7 p W := gerr_of (n := "semblance/api.ErrTwice") (laidMet_subl (.cons _ (.cons _ (.cons _ (.cons _ (.cons _ (.cons _ (.cons_cons _ (List.nil_sublist _)))))))) (laidCya_data h)) (by kernel_rfl) (by kernel_rfl)
theorem laidCya_ErrUnknown {W : World} (h : laidMetH Tryz.prog laidCya W) : ∃ p, GErr 8 p W := gerr_of (n := "semblance/api.ErrUnknown") (laidMet_subl (.cons _ (.cons _ (.cons _ (.cons _ (.cons _ (.cons _ (.cons _ (.cons_cons _ (List.nil_sublist _))))))))) (laidCya_data h)) (by kernel_rfl) (by kernel_rfl)
theorem laidCya_ErrSilent {W : World} (h : laidMetH Tryz.prog laidCya W) : ∃ p, GErr 9 p W := gerr_of (n := "semblance/api.ErrSilent") (laidMet_subl (.cons _ (.cons _ (.cons _ (.cons _ (.cons _ (.cons _ (.cons _ (.cons _ (.cons_cons _ (List.nil_sublist _)))))))))) (laidCya_data h)) (by kernel_rfl) (by kernel_rfl)
theorem laidCya_ErrUnguarded {W : World} (h : laidMetH Tryz.prog laidCya W) : ∃ p, GErr 10 p W := gerr_of (n := "semblance/api.ErrUnguarded") (laidMet_subl (.cons _ (.cons _ (.cons _ (.cons _ (.cons _ (.cons _ (.cons _ (.cons _ (.cons _ (.cons_cons _ (List.nil_sublist _))))))))))) (laidCya_data h)) (by kernel_rfl) (by kernel_rfl)
theorem laidCya_ErrSteps {W : World} (h : laidMetH Tryz.prog laidCya W) : ∃ p, GErr 12 p W := gerr_of (n := "semblance/api.ErrSteps") (laidMet_subl (.cons _ (.cons _ (.cons _ (.cons _ (.cons _ (.cons _ (.cons _ (.cons _ (.cons _ (.cons _ (.cons_cons _ (List.nil_sublist _)))))))))))) (laidCya_data h)) (by kernel_rfl) (by kernel_rfl)
theorem laidCya_ErrStates {W : World} (h : laidMetH Tryz.prog laidCya W) : ∃ p, GErr 13 p W := gerr_of (n := "semblance/api.ErrStates") (laidMet_subl (.cons _ (.cons _ (.cons _ (.cons _ (.cons _ (.cons _ (.cons _ (.cons _ (.cons _ (.cons _ (.cons _ (.cons_cons _ (List.nil_sublist _))))))))))))) (laidCya_data h)) (by kernel_rfl) (by kernel_rfl)
theorem laidCya_ErrEdges {W : World} (h : laidMetH Tryz.prog laidCya W) : ∃ p, GErr 14 p W := gerr_of (n := "semblance/api.ErrEdges") (laidMet_subl (.cons _ (.cons _ (.cons _ (.cons _ (.cons _ (.cons _ (.cons _ (.cons _ (.cons _ (.cons _ (.cons _ (.cons _ (.cons_cons _ (List.nil_sublist _)))))))))))))) (laidCya_data h)) (by kernel_rfl) (by kernel_rfl)
theorem laidCya_ErrSystem {W : World} (h : laidMetH Tryz.prog laidCya W) : ∃ p, GErr 0 p W := gerr_of (n := "semblance/api.ErrSystem") (laidMet_subl (.cons _ (.cons _ (.cons _ (.cons _ (.cons _ (.cons _ (.cons _ (.cons _ (.cons _ (.cons _ (.cons _ (.cons _ (.cons _ (.cons_cons _ (List.nil_sublist _))))))))))))))) (laidCya_data h)) (by kernel_rfl) (by kernel_rfl)
theorem laidCya_ErrClasses {W : World} (h : laidMetH Tryz.prog laidCya W) : ∃ p, GErr 15 p W := gerr_of (n := "semblance/api.ErrClasses") (laidMet_subl (.cons _ (.cons _ (.cons _ (.cons _ (.cons _ (.cons _ (.cons _ (.cons _ (.cons _ (.cons _ (.cons _ (.cons _ (.cons _ (.cons _ (.cons_cons _ (List.nil_sublist _)))))))))))))))) (laidCya_data h)) (by kernel_rfl) (by kernel_rfl)
theorem laidCya_ErrFormula {W : World} (h : laidMetH Tryz.prog laidCya W) : ∃ p, GErr 16 p W := gerr_of (n := "semblance/api.ErrFormula") (laidMet_subl (.cons _ (.cons _ (.cons _ (.cons _ (.cons _ (.cons _ (.cons _ (.cons _ (.cons _ (.cons _ (.cons _ (.cons _ (.cons _ (.cons _ (.cons _ (.cons_cons _ (List.nil_sublist _))))))))))))))))) (laidCya_data h)) (by kernel_rfl) (by kernel_rfl)
theorem laidCya_ErrLimit {W : World} (h : laidMetH Tryz.prog laidCya W) : ∃ p, GErr 17 p W := gerr_of (n := "semblance/api.ErrLimit") (laidMet_subl (.cons _ (.cons _ (.cons _ (.cons _ (.cons _ (.cons _ (.cons _ (.cons _ (.cons _ (.cons _ (.cons _ (.cons _ (.cons _ (.cons _ (.cons _ (.cons _ (.cons_cons _ (List.nil_sublist _)))))))))))))))))) (laidCya_data h)) (by kernel_rfl) (by kernel_rfl)
theorem laidCya_ErrNone {W : World} (h : laidMetH Tryz.prog laidCya W) : ∃ p, GErr 18 p W := gerr_of (n := "semblance/api.ErrNone") (laidMet_subl (.cons _ (.cons _ (.cons _ (.cons _ (.cons _ (.cons _ (.cons _ (.cons _ (.cons _ (.cons _ (.cons _ (.cons _ (.cons _ (.cons _ (.cons _ (.cons _ (.cons _ (.cons_cons _ (List.nil_sublist _))))))))))))))))))) (laidCya_data h)) (by kernel_rfl) (by kernel_rfl)
theorem laidCya_ErrScript {W : World} (h : laidMetH Tryz.prog laidCya W) : ∃ p, GErr 19 p W := gerr_of (n := "semblance/api.ErrScript") (laidMet_subl (.cons _ (.cons _ (.cons _ (.cons _ (.cons _ (.cons _ (.cons _ (.cons _ (.cons _ (.cons _ (.cons _ (.cons _ (.cons _ (.cons _ (.cons _ (.cons _ (.cons _ (.cons _ (.cons_cons _ (List.nil_sublist _)))))))))))))))))))) (laidCya_data h)) (by kernel_rfl) (by kernel_rfl)
theorem laidCya_errs14 {W : World} (h : laidMetH Tryz.prog laidCya W) : ∃ p, ErrsK 14 p W := by
  obtain ⟨p, hG⟩ := laidCya_ErrSystem h
  have hd := laidCya_data h
  have s1 := sent_first hG (sent_pair (g0 := 1) (g1 := 0) (n0 := "semblance/api.ErrArg") (n1 := "semblance/api.ErrSystem") (laidMet_subl (l' := [("semblance/api.ErrArg", Rows.laid_semblance_api_ErrArg), ("semblance/api.ErrSystem", Rows.laid_semblance_api_ErrSystem)]) (.cons_cons _ (.cons _ (.cons _ (.cons _ (.cons _ (.cons _ (.cons _ (.cons _ (.cons _ (.cons _ (.cons _ (.cons _ (.cons _ (.cons_cons _ (List.nil_sublist _))))))))))))))) hd) (by kernel_rfl) (by kernel_rfl) (by kernel_rfl) (by kernel_rfl))
  have s2 := sent_first hG (sent_pair (g0 := 2) (g1 := 0) (n0 := "semblance/api.ErrLong") (n1 := "semblance/api.ErrSystem") (laidMet_subl (l' := [("semblance/api.ErrLong", Rows.laid_semblance_api_ErrLong), ("semblance/api.ErrSystem", Rows.laid_semblance_api_ErrSystem)]) (.cons _ (.cons_cons _ (.cons _ (.cons _ (.cons _ (.cons _ (.cons _ (.cons _ (.cons _ (.cons _ (.cons _ (.cons _ (.cons _ (.cons_cons _ (List.nil_sublist _))))))))))))))) hd) (by kernel_rfl) (by kernel_rfl) (by kernel_rfl) (by kernel_rfl))
  have s3 := sent_first hG (sent_pair (g0 := 3) (g1 := 0) (n0 := "semblance/api.ErrIndex") (n1 := "semblance/api.ErrSystem") (laidMet_subl (l' := [("semblance/api.ErrIndex", Rows.laid_semblance_api_ErrIndex), ("semblance/api.ErrSystem", Rows.laid_semblance_api_ErrSystem)]) (.cons _ (.cons _ (.cons_cons _ (.cons _ (.cons _ (.cons _ (.cons _ (.cons _ (.cons _ (.cons _ (.cons _ (.cons _ (.cons _ (.cons_cons _ (List.nil_sublist _))))))))))))))) hd) (by kernel_rfl) (by kernel_rfl) (by kernel_rfl) (by kernel_rfl))
  have s4 := sent_first hG (sent_pair (g0 := 4) (g1 := 0) (n0 := "semblance/api.ErrWord") (n1 := "semblance/api.ErrSystem") (laidMet_subl (l' := [("semblance/api.ErrWord", Rows.laid_semblance_api_ErrWord), ("semblance/api.ErrSystem", Rows.laid_semblance_api_ErrSystem)]) (.cons _ (.cons _ (.cons _ (.cons_cons _ (.cons _ (.cons _ (.cons _ (.cons _ (.cons _ (.cons _ (.cons _ (.cons _ (.cons _ (.cons_cons _ (List.nil_sublist _))))))))))))))) hd) (by kernel_rfl) (by kernel_rfl) (by kernel_rfl) (by kernel_rfl))
  have s5 := sent_first hG (sent_pair (g0 := 5) (g1 := 0) (n0 := "semblance/api.ErrSyntax") (n1 := "semblance/api.ErrSystem") (laidMet_subl (l' := [("semblance/api.ErrSyntax", Rows.laid_semblance_api_ErrSyntax), ("semblance/api.ErrSystem", Rows.laid_semblance_api_ErrSystem)]) (.cons _ (.cons _ (.cons _ (.cons _ (.cons_cons _ (.cons _ (.cons _ (.cons _ (.cons _ (.cons _ (.cons _ (.cons _ (.cons _ (.cons_cons _ (List.nil_sublist _))))))))))))))) hd) (by kernel_rfl) (by kernel_rfl) (by kernel_rfl) (by kernel_rfl))
  have s6 := sent_first hG (sent_pair (g0 := 6) (g1 := 0) (n0 := "semblance/api.ErrDeep") (n1 := "semblance/api.ErrSystem") (laidMet_subl (l' := [("semblance/api.ErrDeep", Rows.laid_semblance_api_ErrDeep), ("semblance/api.ErrSystem", Rows.laid_semblance_api_ErrSystem)]) (.cons _ (.cons _ (.cons _ (.cons _ (.cons _ (.cons_cons _ (.cons _ (.cons _ (.cons _ (.cons _ (.cons _ (.cons _ (.cons _ (.cons_cons _ (List.nil_sublist _))))))))))))))) hd) (by kernel_rfl) (by kernel_rfl) (by kernel_rfl) (by kernel_rfl))
  have s7 := sent_first hG (sent_pair (g0 := 7) (g1 := 0) (n0 := "semblance/api.ErrTwice") (n1 := "semblance/api.ErrSystem") (laidMet_subl (l' := [("semblance/api.ErrTwice", Rows.laid_semblance_api_ErrTwice), ("semblance/api.ErrSystem", Rows.laid_semblance_api_ErrSystem)]) (.cons _ (.cons _ (.cons _ (.cons _ (.cons _ (.cons _ (.cons_cons _ (.cons _ (.cons _ (.cons _ (.cons _ (.cons _ (.cons _ (.cons_cons _ (List.nil_sublist _))))))))))))))) hd) (by kernel_rfl) (by kernel_rfl) (by kernel_rfl) (by kernel_rfl))
  have s8 := sent_first hG (sent_pair (g0 := 8) (g1 := 0) (n0 := "semblance/api.ErrUnknown") (n1 := "semblance/api.ErrSystem") (laidMet_subl (l' := [("semblance/api.ErrUnknown", Rows.laid_semblance_api_ErrUnknown), ("semblance/api.ErrSystem", Rows.laid_semblance_api_ErrSystem)]) (.cons _ (.cons _ (.cons _ (.cons _ (.cons _ (.cons _ (.cons _ (.cons_cons _ (.cons _ (.cons _ (.cons _ (.cons _ (.cons _ (.cons_cons _ (List.nil_sublist _))))))))))))))) hd) (by kernel_rfl) (by kernel_rfl) (by kernel_rfl) (by kernel_rfl))
  have s9 := sent_first hG (sent_pair (g0 := 9) (g1 := 0) (n0 := "semblance/api.ErrSilent") (n1 := "semblance/api.ErrSystem") (laidMet_subl (l' := [("semblance/api.ErrSilent", Rows.laid_semblance_api_ErrSilent), ("semblance/api.ErrSystem", Rows.laid_semblance_api_ErrSystem)]) (.cons _ (.cons _ (.cons _ (.cons _ (.cons _ (.cons _ (.cons _ (.cons _ (.cons_cons _ (.cons _ (.cons _ (.cons _ (.cons _ (.cons_cons _ (List.nil_sublist _))))))))))))))) hd) (by kernel_rfl) (by kernel_rfl) (by kernel_rfl) (by kernel_rfl))
  have s10 := sent_first hG (sent_pair (g0 := 10) (g1 := 0) (n0 := "semblance/api.ErrUnguarded") (n1 := "semblance/api.ErrSystem") (laidMet_subl (l' := [("semblance/api.ErrUnguarded", Rows.laid_semblance_api_ErrUnguarded), ("semblance/api.ErrSystem", Rows.laid_semblance_api_ErrSystem)]) (.cons _ (.cons _ (.cons _ (.cons _ (.cons _ (.cons _ (.cons _ (.cons _ (.cons _ (.cons_cons _ (.cons _ (.cons _ (.cons _ (.cons_cons _ (List.nil_sublist _))))))))))))))) hd) (by kernel_rfl) (by kernel_rfl) (by kernel_rfl) (by kernel_rfl))
  have s11 := sent_first hG (sent_pair (g0 := 12) (g1 := 0) (n0 := "semblance/api.ErrSteps") (n1 := "semblance/api.ErrSystem") (laidMet_subl (l' := [("semblance/api.ErrSteps", Rows.laid_semblance_api_ErrSteps), ("semblance/api.ErrSystem", Rows.laid_semblance_api_ErrSystem)]) (.cons _ (.cons _ (.cons _ (.cons _ (.cons _ (.cons _ (.cons _ (.cons _ (.cons _ (.cons _ (.cons_cons _ (.cons _ (.cons _ (.cons_cons _ (List.nil_sublist _))))))))))))))) hd) (by kernel_rfl) (by kernel_rfl) (by kernel_rfl) (by kernel_rfl))
  have s12 := sent_first hG (sent_pair (g0 := 13) (g1 := 0) (n0 := "semblance/api.ErrStates") (n1 := "semblance/api.ErrSystem") (laidMet_subl (l' := [("semblance/api.ErrStates", Rows.laid_semblance_api_ErrStates), ("semblance/api.ErrSystem", Rows.laid_semblance_api_ErrSystem)]) (.cons _ (.cons _ (.cons _ (.cons _ (.cons _ (.cons _ (.cons _ (.cons _ (.cons _ (.cons _ (.cons _ (.cons_cons _ (.cons _ (.cons_cons _ (List.nil_sublist _))))))))))))))) hd) (by kernel_rfl) (by kernel_rfl) (by kernel_rfl) (by kernel_rfl))
  have s13 := sent_first hG (sent_pair (g0 := 14) (g1 := 0) (n0 := "semblance/api.ErrEdges") (n1 := "semblance/api.ErrSystem") (laidMet_subl (l' := [("semblance/api.ErrEdges", Rows.laid_semblance_api_ErrEdges), ("semblance/api.ErrSystem", Rows.laid_semblance_api_ErrSystem)]) (.cons _ (.cons _ (.cons _ (.cons _ (.cons _ (.cons _ (.cons _ (.cons _ (.cons _ (.cons _ (.cons _ (.cons _ (.cons_cons _ (.cons_cons _ (List.nil_sublist _))))))))))))))) hd) (by kernel_rfl) (by kernel_rfl) (by kernel_rfl) (by kernel_rfl))
  refine ⟨p, hG, s1.2, fun j h1 h2 => ?_⟩
  have hj : j = 1 ∨ j = 2 ∨ j = 3 ∨ j = 4 ∨ j = 5 ∨ j = 6 ∨ j = 7 ∨ j = 8 ∨ j = 9 ∨ j = 10 ∨ j = 11 ∨ j = 12 ∨ j = 13 := by omega
  rcases hj with rfl | rfl | rfl | rfl | rfl | rfl | rfl | rfl | rfl | rfl | rfl | rfl | rfl
  · exact s1.1
  · exact s2.1
  · exact s3.1
  · exact s4.1
  · exact s5.1
  · exact s6.1
  · exact s7.1
  · exact s8.1
  · exact s9.1
  · exact s10.1
  · exact s11.1
  · exact s12.1
  · exact s13.1
end Go.Proofs.YtkmljelgogcobaaGreatDoor

namespace Go.Proofs.YtkmljelgogcobaaGreatDoor
open Go.RowKit Pl

def fil (label : Int) (ss : List S) : List Value := (ss.filter (fun s => s.1 == label)).map fun s => .int .i64 s.2
theorem fil_snoc (label : Int) (ss : List S) (k : Nat) (h : k < ss.length) : fil label (ss.take (k+1)) = fil label (ss.take k) ++ (if (ss.getD k (0,0)).1 == label then [.int .i64 (ss.getD k (0,0)).2] else []) := by
  rw [List.take_succ_eq_append_getElem h]
  unfold fil
  rw [List.filter_append, List.map_append]
  simp only [List.getD, List.getElem?_eq_getElem h, Option.getD_some]
  by_cases hx : (ss[k].1 == label) = true <;> simp [List.filter, hx]
theorem fil_le (label : Int) (ss : List S) (k : Nat) : (fil label (ss.take k)).length ≤ ss.length := by
  unfold fil; rw [List.length_map]; exact Nat.le_trans (List.length_filter_le _ _) (by simp; omega)

set_option maxRecDepth 100000 in
theorem with_any (a : Option Addr) (b off c : Nat) (ss : List S) (label : Int) (w : World) (hlen : ss.length ≤ 20000)
    (ha : 0 < ss.length → a = some ⟨b, off, none⟩) (hb : b < w.heap.size)
    (h0 : ∀ i, i < ss.length → w.cell? ⟨b, off + i * 2, none⟩ = some (.int .i64 (ss.getD i (0,0)).1))
    (h1 : ∀ i, i < ss.length → w.cell? ⟨b, off + i * 2 + 1, none⟩ = some (.int .i64 (ss.getD i (0,0)).2)) :
    Calls Tryz.prog 60 #[.slice a ss.length c, .int .i64 label] w fun e w' =>
      ∃ v, e = .returned v ∧ w'.ownsRow w.heap.size 3 1 v ((fil label ss).length) (fil label ss) ∧ Below w.heap.size w w' := by
  go_enter Tryz.func60, Tryz.ntmps60
  go_wp2
  go_loopw [5, 10] (fun v i wr => ∃ k : Nat, k ≤ ss.length ∧ i = .int .i64 k ∧ wr.ownsRow w.heap.size 3 1 v ((fil label (ss.take k)).length) (fil label (ss.take k)) ∧ Below w.heap.size w wr)
    (fun _ i _ => ss.length - (intOf i).toNat)
  case atStart => exact ⟨0, Nat.zero_le _, rfl, World.ownsRow_nil _ _ _ _, Below.refl _ _⟩
  case round =>
    obtain ⟨k, hk, rfl, hown, hnx⟩ := hrel
    by_cases hlt : k < ss.length
    · obtain rfl := ha (by omega)
      have hs := fil_snoc label ss k hlt
      obtain ⟨x, hx⟩ : ∃ x, x = ss.getD k (0,0) := ⟨_, rfl⟩
      have hc0 : wr.cell? ⟨b, off + k * 2, none⟩ = some (.int .i64 x.1) := by rw [hx]; exact (hnx.cell (by exact hb)).trans (h0 k hlt)
      have hc1 : wr.cell? ⟨b, off + k * 2 + 1, none⟩ = some (.int .i64 x.2) := by rw [hx]; exact (hnx.cell (by exact hb)).trans (h1 k hlt)
      have hbr : b < wr.heap.size := Nat.lt_of_lt_of_le hb hnx.size
      rw [← hx] at hs
      have hle := fil_le label ss k
      have hsz := hnx.size
      clear h0 h1 hx ha
      generalize fil label (ss.take k) = f at *
      by_cases hxl : (x.1 == label) = true
      · rw [if_pos hxl] at hs
        have HS := Lib.hid hs; clear hs
        go_wp2_with (at_builtin; refine wpList_app rfl _ _ _ rfl rowI ((hnx.alloc hsz _).alloc (by simp; omega) _) (by simp; omega) rfl ((hown.alloc _).alloc _) ⟨wr.heap.size + 1, 0, none⟩ 1 1 [.int .i64 x.2] rfl rfl (cells1 (by simp [go_sem])) (by simp [Value.oneCell']) (by omega) (by unfold maxLen; omega) ?_; intro v' w1 hown1 hb1 _)
        clear hown hnx
        go_roundw
        case rel => exact ⟨k + 1, by omega, by go_num, by rw [HS.out]; simpa using hown1, hb1⟩
        case measure => simp [intOf]; omega
      · rw [if_neg hxl] at hs
        have hxl' : (x.1 == label) = false := by simpa using hxl
        have HS := Lib.hid hs; clear hs
        clear hxl
        go_wp2
        go_roundw
        case rel => exact ⟨k + 1, by omega, by go_num, by rw [HS.out]; simpa using hown.alloc _, hnx.alloc hsz _⟩
        case measure => simp [intOf]; omega
    · clear h0 h1 ha
      go_wp2
      go_ret
      have : k = ss.length := by omega
      subst this
      exact ⟨_, rfl, by simpa using hown, hnx⟩

set_option maxRecDepth 100000 in
theorem with_nil (a : Option Addr) (c : Nat) (label : Int) (w : World) :
    Calls Tryz.prog 60 #[.slice a 0 c, .int .i64 label] w fun e w' =>
      ∃ v, e = .returned v ∧ w'.ownsRow w.heap.size 3 1 v 0 [] ∧ Below w.heap.size w w' := by
  go_enter Tryz.func60, Tryz.ntmps60
  go_wp2
  refine wp_loop_rounds 1 ?_
  rw [rounds_succ]
  go_wp2
  go_ret
  exact ⟨_, rfl, World.ownsRow_nil _ _ _ _, Below.refl _ _⟩

theorem fil_flat (label : Int) (ss : List S) : fil label ss = (((ss.filter (fun s => s.1 == label)).map fun s => s.2)).flatMap encI := by
  unfold fil
  rw [List.flatMap_map]
  induction (ss.filter (fun s => s.1 == label)) with
  | nil => rfl
  | cons x l ih => simp [ih, encI]

/-- Where steps of a label lead. -/
def withL (label : Int) (ss : List S) : List Int := (ss.filter (fun s => s.1 == label)).map fun s => s.2

theorem with_sl {a : Option Addr} {b off c : Nat} {ss : List S} {w : World} (h : SlAt encS 2 w a b off ss) (hlen : ss.length ≤ 20000) (label : Int) :
    Calls Tryz.prog 60 #[.slice a ss.length c, .int .i64 label] w fun e w' =>
      ∃ v, e = .returned v ∧ w'.ownsRow w.heap.size 3 1 v (withL label ss).length ((withL label ss).flatMap encI) ∧ Below w.heap.size w w' := by
  by_cases h0 : 0 < ss.length
  · refine (with_any a b off c ss label w hlen h.ad (h.lt h0) (fun i hi => ?_) (fun i hi => ?_)).mono ?_
    · obtain ⟨x, hx⟩ := getElem?_of_lt hi
      rw [List.getD, hx]; exact h.s0 hx
    · obtain ⟨x, hx⟩ := getElem?_of_lt hi
      rw [List.getD, hx]; exact h.s1 hx
    · rintro e w' ⟨v, rfl, ho, hB⟩
      rw [fil_flat] at ho
      refine ⟨v, rfl, ?_, hB⟩
      have hl : (withL label ss).length = ((withL label ss).flatMap encI).length := by rw [length_flatMap lenI]; omega
      unfold withL at *
      rw [hl]; exact ho
  · have hz : ss = [] := List.eq_nil_of_length_eq_zero (by omega)
    subst hz
    exact with_nil a c label w

end Go.Proofs.YtkmljelgogcobaaGreatDoor

namespace Go.Proofs.YtkmljelgogcobaaGreatDoor
open Go.RowKit Pl

theorem fldSys0 (x y z : Int) (v : Value) (w : World) : (Instr.field 24 (.agg #[.int .i64 x, .int .i64 y, .int .i64 z, v]) 0).run Tryz.prog w = .ok (.int .i64 x) w := by kernel_rfl
theorem fldSys1 (x y z : Int) (v : Value) (w : World) : (Instr.field 24 (.agg #[.int .i64 x, .int .i64 y, .int .i64 z, v]) 1).run Tryz.prog w = .ok (.int .i64 y) w := by kernel_rfl
theorem fldSys2 (x y z : Int) (v : Value) (w : World) : (Instr.field 24 (.agg #[.int .i64 x, .int .i64 y, .int .i64 z, v]) 2).run Tryz.prog w = .ok (.int .i64 z) w := by kernel_rfl
theorem fldSys3 (x y z : Int) (v : Value) (w : World) : (Instr.field 24 (.agg #[.int .i64 x, .int .i64 y, .int .i64 z, v]) 3).run Tryz.prog w = .ok v w := by kernel_rfl

theorem outs_len {s : Lts} (h : s.Right) (i : Int) : (s.outs i).length ≤ 10000 := by
  have := h.st0
  unfold Lts.outs; rw [List.length_map]
  have := List.length_filter_le (fun x => x.1 == i) s.es; omega
theorem ins_len {s : Lts} (h : s.Right) (i : Int) : (s.ins i).length ≤ 10000 := by
  have := h.st0
  unfold Lts.ins; rw [List.length_map]
  have := List.length_filter_le (fun x => x.2.2 == i) (nf ltB s.es)
  have := length_nf (lt := ltB) s.es; omega

set_option maxRecDepth 100000 in
theorem own_any {w : World} {gb : Nat} {s : Lts} (h : GraphAt w gb s) :
    Calls Tryz.prog 61 #[.pointer (some ⟨gb, 0, none⟩)] w fun e w' => ∃ a c b off, e = .returned (.agg #[.int .i64 s.st, .int .i64 s.lb, .int .i64 s.s0, .slice a s.es.length c]) ∧ s.es.length ≤ c ∧ SlAt encE 3 w' a b off s.es ∧ Below w.heap.size w w' := by
  obtain ⟨ve, oa, of, ia, if_, h1, ⟨a, c, b, off, rfl, hcc, h3⟩, _, _⟩ := h.blk
  have c0 : w.cell? ⟨gb, 0, none⟩ = some (.int .i64 s.st) := by simp [World.cell?, h1]
  have c1 : w.cell? ⟨gb, 1, none⟩ = some (.int .i64 s.lb) := by simp [World.cell?, h1]
  have c2 : w.cell? ⟨gb, 2, none⟩ = some (.int .i64 s.s0) := by simp [World.cell?, h1]
  have c3 : w.cell? ⟨gb, 3, none⟩ = some (.slice a s.es.length c) := by simp [World.cell?, h1]
  have hgb := h.lt
  have H3 := Lib.hid h3
  clear h h1 h3
  go_enter Tryz.func61, Tryz.ntmps61
  go_wp2
  have hB : Below w.heap.size w _ := (Below.refl w.heap.size w).alloc (Nat.le_refl _) (Obj.cells #[.int .i64 s.st, .int .i64 s.lb, .int .i64 s.s0, .slice a s.es.length c] 24)
  exact bodyPost_ret (v := .agg #[.int .i64 s.st, .int .i64 s.lb, .int .i64 s.s0, .slice a s.es.length c]) (by simp [results, Tryz.results61, go_sem]) rfl ⟨a, c, b, off, rfl, hcc, H3.out.below hB (Nat.le_refl _), hB⟩

set_option maxRecDepth 100000 in
theorem getStates_any {w : World} {gb : Nat} {s : Lts} (h : GraphAt w gb s) :
    Calls Tryz.prog 43 #[.pointer (some ⟨gb, 0, none⟩)] w fun e w' => e = .returned (.int .i64 s.st) ∧ Below w.heap.size w w' := by
  have HO := Lib.hid (own_any h); clear h
  have hfl := fldSys0
  have hfl := fldSys0
  have hfl := fldSys0
  go_enter Tryz.func43, Tryz.ntmps43
  go_wp2_with (go_at_call 61; refine (HO.out).mono ?_; rintro e w1 ⟨a, c, b, off, rfl, hcc, hS, hB⟩; have HS := Lib.hid hS; clear hS)
  go_ret
  exact ⟨rfl, hB⟩

set_option maxRecDepth 100000 in
theorem getLabels_any {w : World} {gb : Nat} {s : Lts} (h : GraphAt w gb s) :
    Calls Tryz.prog 44 #[.pointer (some ⟨gb, 0, none⟩)] w fun e w' => e = .returned (.int .i64 s.lb) ∧ Below w.heap.size w w' := by
  have HO := Lib.hid (own_any h); clear h
  have hfl := fldSys1
  have hfl := fldSys1
  have hfl := fldSys1
  go_enter Tryz.func44, Tryz.ntmps44
  go_wp2_with (go_at_call 61; refine (HO.out).mono ?_; rintro e w1 ⟨a, c, b, off, rfl, hcc, hS, hB⟩; have HS := Lib.hid hS; clear hS)
  go_ret
  exact ⟨rfl, hB⟩

set_option maxRecDepth 100000 in
theorem getStart_any {w : World} {gb : Nat} {s : Lts} (h : GraphAt w gb s) :
    Calls Tryz.prog 45 #[.pointer (some ⟨gb, 0, none⟩)] w fun e w' => e = .returned (.int .i64 s.s0) ∧ Below w.heap.size w w' := by
  have HO := Lib.hid (own_any h); clear h
  have hfl := fldSys2
  have hfl := fldSys2
  have hfl := fldSys2
  go_enter Tryz.func45, Tryz.ntmps45
  go_wp2_with (go_at_call 61; refine (HO.out).mono ?_; rintro e w1 ⟨a, c, b, off, rfl, hcc, hS, hB⟩; have HS := Lib.hid hS; clear hS)
  go_ret
  exact ⟨rfl, hB⟩

set_option maxRecDepth 100000 in
theorem getOut_any {w : World} {gb : Nat} {s : Lts} (h : GraphAt w gb s) (i : Int) :
    Calls Tryz.prog 9 #[.pointer (some ⟨gb, 0, none⟩), .int .i64 i] w fun e w' => ∃ v, e = .returned v ∧ w'.ownsRow w.heap.size 92 2 v (s.outs i).length ((s.outs i).flatMap encS) ∧ Below w.heap.size w w' := by
  have hl : (s.outs i).length ≤ 1000000 := by have := outs_len h.right i; omega
  have HO := Lib.hid (each_any h (Below.refl _ w) i); clear h
  go_enter Tryz.func9, Tryz.ntmps9
  go_wp2_with (go_at_call 58; refine (HO.out).mono ?_; rintro e w1 ⟨⟨a, c, b, off, rfl, hc1, hc2, hS⟩, hB⟩; have HS := Lib.hid hS; clear hS)
  have hsz := hB.size
  refine (cloneS_any (HS.out.below hB (Nat.le_refl _)) hl).mono ?_
  rintro e w2 ⟨v, rfl, hown, hB2⟩
  have HW := Lib.hid hown; clear hown
  go_wp2
  go_ret
  exact ⟨v, rfl, own_mono HW.out hsz, hB.trans (hB2.mono hsz)⟩

set_option maxRecDepth 100000 in
theorem getIn_any {w : World} {gb : Nat} {s : Lts} (h : GraphAt w gb s) (i : Int) :
    Calls Tryz.prog 10 #[.pointer (some ⟨gb, 0, none⟩), .int .i64 i] w fun e w' => ∃ v, e = .returned v ∧ w'.ownsRow w.heap.size 92 2 v (s.ins i).length ((s.ins i).flatMap encS) ∧ Below w.heap.size w w' := by
  have hl : (s.ins i).length ≤ 1000000 := by have := ins_len h.right i; omega
  have HO := Lib.hid (back_any h (Below.refl _ w) i); clear h
  go_enter Tryz.func10, Tryz.ntmps10
  go_wp2_with (go_at_call 59; refine (HO.out).mono ?_; rintro e w1 ⟨⟨a, c, b, off, rfl, hc1, hc2, hS⟩, hB⟩; have HS := Lib.hid hS; clear hS)
  have hsz := hB.size
  refine (cloneS_any (HS.out.below hB (Nat.le_refl _)) hl).mono ?_
  rintro e w2 ⟨v, rfl, hown, hB2⟩
  have HW := Lib.hid hown; clear hown
  go_wp2
  go_ret
  exact ⟨v, rfl, own_mono HW.out hsz, hB.trans (hB2.mono hsz)⟩

set_option maxRecDepth 100000 in
theorem getBy_any {w : World} {gb : Nat} {s : Lts} (h : GraphAt w gb s) (i label : Int) :
    Calls Tryz.prog 12 #[.pointer (some ⟨gb, 0, none⟩), .int .i64 i, .int .i64 label] w fun e w' => ∃ v, e = .returned v ∧ w'.ownsRow w.heap.size 3 1 v (withL label (s.outs i)).length ((withL label (s.outs i)).flatMap encI) ∧ Below w.heap.size w w' := by
  have hl : (s.outs i).length ≤ 20000 := by have := outs_len h.right i; omega
  have HO := Lib.hid (each_any h (Below.refl _ w) i); clear h
  go_enter Tryz.func12, Tryz.ntmps12
  go_wp2_with (go_at_call 58; refine (HO.out).mono ?_; rintro e w1 ⟨⟨a, c, b, off, rfl, hc1, hc2, hS⟩, hB⟩; have HS := Lib.hid hS; clear hS)
  have hsz := hB.size
  refine (with_sl (HS.out.below hB (Nat.le_refl _)) hl label).mono ?_
  rintro e w2 ⟨v, rfl, hown, hB2⟩
  have HW := Lib.hid hown; clear hown
  go_wp2
  go_ret
  exact ⟨v, rfl, own_mono HW.out hsz, hB.trans (hB2.mono hsz)⟩

set_option maxRecDepth 100000 in
theorem getFrom_any {w : World} {gb : Nat} {s : Lts} (h : GraphAt w gb s) (i label : Int) :
    Calls Tryz.prog 13 #[.pointer (some ⟨gb, 0, none⟩), .int .i64 i, .int .i64 label] w fun e w' => ∃ v, e = .returned v ∧ w'.ownsRow w.heap.size 3 1 v (withL label (s.ins i)).length ((withL label (s.ins i)).flatMap encI) ∧ Below w.heap.size w w' := by
  have hl : (s.ins i).length ≤ 20000 := by have := ins_len h.right i; omega
  have HO := Lib.hid (back_any h (Below.refl _ w) i); clear h
  go_enter Tryz.func13, Tryz.ntmps13
  go_wp2_with (go_at_call 59; refine (HO.out).mono ?_; rintro e w1 ⟨⟨a, c, b, off, rfl, hc1, hc2, hS⟩, hB⟩; have HS := Lib.hid hS; clear hS)
  have hsz := hB.size
  refine (with_sl (HS.out.below hB (Nat.le_refl _)) hl label).mono ?_
  rintro e w2 ⟨v, rfl, hown, hB2⟩
  have HW := Lib.hid hown; clear hown
  go_wp2
  go_ret
  exact ⟨v, rfl, own_mono HW.out hsz, hB.trans (hB2.mono hsz)⟩

set_option maxRecDepth 100000 in
theorem getEdges_any {w : World} {gb : Nat} {s : Lts} (h : GraphAt w gb s) :
    Calls Tryz.prog 15 #[.pointer (some ⟨gb, 0, none⟩)] w fun e w' => ∃ v, e = .returned v ∧ w'.ownsRow w.heap.size 79 3 v s.es.length (s.es.flatMap encE) ∧ Below w.heap.size w w' := by
  have hl : s.es.length ≤ 1000000 := by have := h.right.st0; omega
  have HO := Lib.hid (own_any h); clear h
  have hfl := fldSys3
  go_enter Tryz.func15, Tryz.ntmps15
  go_wp2_with (go_at_call 61; refine (HO.out).mono ?_; rintro e w1 ⟨a, c, b, off, rfl, hcc, hS, hB⟩; have HS := Lib.hid hS; clear hS)
  have hsz := hB.size
  refine (cloneE_any HS.out hl).mono ?_
  rintro e w2 ⟨v, rfl, hown, hB2⟩
  have HW := Lib.hid hown; clear hown
  go_wp2
  go_ret
  exact ⟨v, rfl, own_mono HW.out hsz, hB.trans (hB2.mono hsz)⟩

end Go.Proofs.YtkmljelgogcobaaGreatDoor

namespace Go.Proofs.YtkmljelgogcobaaGreatDoor
open Go.RowKit Pl

theorem belowStepT {w0 w w' : World} (h : Below w0.heap.size w0 w) (hB : Below w.heap.size w w') : Below w0.heap.size w0 w' := h.trans (hB.mono h.size)
/-- The world within Cut's last loop: the system at O, its edges the call's own. -/
structure KW (w5 wr : World) (O : Nat) (st lb s0 : Int) (v : Value) (es : List E) : Prop where
  oth : ∀ b, b < w5.heap.size → b ≠ O → wr.heap[b]? = w5.heap[b]?
  bel : Below O w5 wr
  oo : wr.heap[O]? = some (.cells #[.int .i64 st, .int .i64 lb, .int .i64 s0, v] 24 (0, 0))
  own : wr.ownsRow w5.heap.size 79 3 v es.length (es.flatMap encE)
  lt : O < w5.heap.size
section
variable {w5 wr w' : World} {O : Nat} {st lb s0 : Int} {v : Value} {es : List E}
theorem KW.call (h : KW w5 wr O st lb s0 v es) (hB : Below wr.heap.size wr w') : KW w5 w' O st lb s0 v es := by
  have hs := h.bel.size; have hl := h.lt
  exact ⟨fun b hb hne => by rw [hB.block _ (by omega)]; exact h.oth b hb hne, h.bel.trans (hB.mono (by omega)), by rw [hB.block _ (by omega)]; exact h.oo, own_below h.own hB, h.lt⟩
theorem KW.keepc {w1 : World} (h : KW w5 wr O st lb s0 v es) (hg : wr.grownBy w1 v.ownBlock) : w1.cell? ⟨O, 3, none⟩ = some v ∧ w1.frozen? ⟨O, 3, none⟩ = false := by
  have hs := h.bel.size; have hl := h.lt
  have := (hg.block O (by omega) (fun e => by have := (h.own.lt O e.symm).1; omega)).trans h.oo
  constructor <;> simp [World.cell?, World.frozen?, this]
theorem KW.setEs {w1 : World} {v' : Value} {es' : List E} (h : KW w5 wr O st lb s0 v es) (hown : w1.ownsRow w5.heap.size 79 3 v' es'.length (es'.flatMap encE)) (hg : wr.grownBy w1 v.ownBlock) :
    KW w5 (w1.setCell ⟨O, 3, none⟩ v') O st lb s0 v' es' := by
  have hs := h.bel.size; have hl := h.lt; have hgs := hg.size
  have hv : ∀ b, b < w5.heap.size → some b ≠ v.ownBlock := fun b hb e => by have := (h.own.lt b e.symm).1; omega
  refine ⟨fun b hb hne => ?_, (h.bel.grown hg (by omega) (fun k hk => by have := (h.own.lt k hk).1; omega)).setCell (Nat.le_refl _) _, ?_, ownsRow_setCell_below hown hl _, hl⟩
  · rw [Below.heap_setCell _ _ _ _ hne, hg.block b (by omega) (hv b hb)]
    exact h.oth b hb hne
  · exact heap_setCell_same _ O 3 _ _ _ ((hg.block O (by omega) (hv O hl)).trans h.oo)
theorem KW.cells (h : KW w5 wr O st lb s0 v es) : wr.cell? ⟨O, 0, none⟩ = some (.int .i64 st) ∧ wr.cell? ⟨O, 1, none⟩ = some (.int .i64 lb) ∧ wr.cell? ⟨O, 2, none⟩ = some (.int .i64 s0) ∧ wr.cell? ⟨O, 3, none⟩ = some v ∧ wr.frozen? ⟨O, 3, none⟩ = false := by
  have := h.oo
  refine ⟨?_, ?_, ?_, ?_, ?_⟩ <;> simp [World.cell?, World.frozen?, this]
end
end Go.Proofs.YtkmljelgogcobaaGreatDoor

namespace Go.Proofs.YtkmljelgogcobaaGreatDoor
open Go.RowKit Pl

def cmpI (x y : Int) : Int := if x < y then -1 else if y < x then 1 else 0

theorem compare_any (x y : Int) (w : World) : Calls Tryz.prog 54 #[.int .i64 x, .int .i64 y] w fun e w' => e = .returned (.int .i64 (cmpI x y)) ∧ w = w' := by
  unfold cmpI
  go_enter Tryz.func54, Tryz.ntmps54
  go_wp2
  all_goals (go_ret; exact ⟨by simp [*], rfl⟩)

def orL : List Int → Int
  | [] => 0
  | x :: l => if x = 0 then orL l else x

theorem orL_drop {xs : List Int} {k : Nat} (h : ∀ j, j < k → xs[j]? = some 0) : orL xs = orL (xs.drop k) := by
  induction k generalizing xs with
  | zero => simp
  | succ k ih =>
    match xs, h with
    | [], _ => simp [orL]
    | x :: xs, h =>
      have h0 : x = 0 := by simpa using h 0 (by omega)
      rw [orL, if_pos h0, List.drop_succ_cons]
      exact ih fun j hj => by simpa using h (j + 1) (by omega)
theorem orL_at {xs : List Int} {k : Nat} {x : Int} (h : ∀ j, j < k → xs[j]? = some 0) (hx : xs[k]? = some x) (h0 : x ≠ 0) : orL xs = x := by
  rw [orL_drop h, List.drop_eq_getElem?_toList_append, hx]
  simp [orL, h0]
theorem orL_none {xs : List Int} (h : ∀ j, j < xs.length → xs[j]? = some 0) : orL xs = 0 := by
  rw [orL_drop h]; simp [orL]

set_option maxRecDepth 100000 in
theorem or_any {a : Option Addr} {b off c : Nat} {xs : List Int} {w : World} (h : SlAt encI 1 w a b off xs) (hl : xs.length ≤ 4611686018427387904) :
   Calls Tryz.prog 53 #[.slice a xs.length c] w fun e w' => e = .returned (.int .i64 (orL xs)) ∧ w = w' := by
  go_enter Tryz.func53, Tryz.ntmps53
  go_wp2
  go_loop [5, 8] (fun _ i => ∃ k : Nat, k ≤ xs.length ∧ i = .int .i64 k ∧ (∀ j, j < k → xs[j]? = some 0)) (fun _ i => xs.length - (intOf i).toNat)
  case atStart => exact ⟨0, Nat.zero_le _, rfl, by intro j hj; omega⟩
  case round =>
    obtain ⟨k, hk, rfl, hz⟩ := hrel
    have HZ := Lib.hid hz; clear hz
    by_cases hlt : k < xs.length
    · obtain ⟨x, hx⟩ := getElem?_of_lt hlt
      obtain rfl := h.ad (by omega)
      have hc := h.ci hx
      have HX := Lib.hid hx; clear h hx
      by_cases h0 : x = 0
      · subst h0
        go_wp2
        go_round
        case rel => exact ⟨k + 1, by omega, by go_num, by
            intro j hj
            by_cases hjk : j = k
            · subst hjk; exact HX.out
            · exact HZ.out j (by omega)⟩
        case measure => simp [intOf]; omega
      · have hb : (x != 0) = true := by simp [h0]
        have H0 := Lib.hid h0; clear h0
        go_wp2
        go_ret
        exact ⟨ret_i (orL_at HZ.out HX.out H0.out).symm, rfl⟩
    · clear h
      go_wp2
      go_ret
      obtain rfl : k = xs.length := by omega
      exact ⟨ret_i (orL_none HZ.out).symm, rfl⟩

def cmpE (a b : E) : Int := orL [cmpI a.1 b.1, cmpI a.2.1 b.2.1, cmpI a.2.2 b.2.2]

theorem slAt_lit3 {w : World} {n : Nat} {x y z : Int} (h0 : w.cell? ⟨n, 0, none⟩ = some (.int .i64 x)) (h1 : w.cell? ⟨n, 1, none⟩ = some (.int .i64 y)) (h2 : w.cell? ⟨n, 2, none⟩ = some (.int .i64 z)) :
    SlAt encI 1 w (some ⟨n, 0, none⟩) n 0 [x, y, z] where
  ad _ := rfl
  lt _ := World.block_lt_of_cell? _ _ h0
  cell := by
    intro i v hv j u hu
    match j, hu with
    | 0, hu =>
      simp [encI] at hu; subst hu
      match i, hv with
      | 0, hv => simp at hv; subst hv; exact h0
      | 1, hv => simp at hv; subst hv; exact h1
      | 2, hv => simp at hv; subst hv; exact h2

set_option maxRecDepth 100000 in
theorem order_any (x y : E) (w : World) : Calls Tryz.prog 127 #[.agg #[.int .i64 x.1, .int .i64 x.2.1, .int .i64 x.2.2], .agg #[.int .i64 y.1, .int .i64 y.2.1, .int .i64 y.2.2]] w fun e w' => e = .returned (.int .i64 (cmpE x y)) ∧ ∃ q os', w' = Go.Sort.grow (w.drewN q) os' := by
  unfold cmpE
  go_enter Tryz.func127, Tryz.ntmps127
  go_wp2
  go_region_held3 (fun w' => w'.cell? ⟨w.heap.size, 0, none⟩ = some (.int .i64 x.1) ∧ w'.cell? ⟨w.heap.size, 1, none⟩ = some (.int .i64 x.2.1) ∧ w'.cell? ⟨w.heap.size, 2, none⟩ = some (.int .i64 x.2.2) ∧ w'.cell? ⟨w.heap.size + 1, 0, none⟩ = some (.int .i64 y.1) ∧ w'.cell? ⟨w.heap.size + 1, 1, none⟩ = some (.int .i64 y.2.1) ∧ w'.cell? ⟨w.heap.size + 1, 2, none⟩ = some (.int .i64 y.2.2)) (simp [go_sem, World.cell?_alloc_past])
    (first
      | (go_at_call 54; refine (compare_any _ _ _).mono ?_; rintro e w' ⟨rfl, rfl⟩)
      | (go_at_call 53; refine (or_any (slAt_lit3 (x := cmpI x.1 y.1) (y := cmpI x.2.1 y.2.1) (z := cmpI x.2.2 y.2.2) (by simp [go_sem]) (by simp [go_sem]) (by simp [go_sem])) (by simp)).mono ?_; rintro e w' ⟨rfl, rfl⟩))
  go_wp2
  go_ret
  exact ⟨rfl, 1, _, by rw [Go.Sort.alloc_eq_grow, Go.Sort.alloc_eq_grow, Go.Sort.alloc_eq_grow, Go.Sort.grow_grow, Go.Sort.grow_grow]; rfl⟩

end Go.Proofs.YtkmljelgogcobaaGreatDoor

namespace Go.Proofs.YtkmljelgogcobaaGreatDoor
open Go.RowKit Pl Go.Sort Go.Shelf Go.Lib

section
variable {α : Type} [Inhabited α] {enc : α → List Value} {k : Nat} {w : World} {base g n cap : Nat} {e : TypeId}

theorem flatK_toList (hk : ∀ x, (enc x).length = k) (hk0 : 0 < k) (d : Array α) : (flatK enc k d).toList = d.toList.flatMap enc := by
  apply List.ext_getElem?
  intro t
  by_cases ht : t < d.size * k
  · have hi : t / k < d.size := by rw [Nat.div_lt_iff_lt_mul hk0]; exact ht
    have hm : t % k < k := Nat.mod_lt _ hk0
    have hx : d.toList[t / k]? = some d[t / k]! := by
      rw [Array.getElem?_toList, Array.getElem?_eq_getElem hi, getElem!_pos d (t / k) hi]
    have h1 := getElem?_flatMap hk d.toList (t / k) _ hx (t % k) _ (List.getElem?_eq_getElem (by rw [hk]; exact hm))
    rw [show t / k * k + t % k = t from Nat.div_add_mod' t k] at h1
    rw [h1, Array.getElem?_toList]
    have h2 := get_flatK enc k d t ht
    rw [getElem!_pos _ _ (by simpa using ht)] at h2
    rw [Array.getElem?_eq_getElem (by simpa using ht), h2, getElem!_pos _ _ (by rw [hk]; exact hm)]
  · rw [List.getElem?_eq_none (by simp; omega), List.getElem?_eq_none (by rw [length_flatMap hk]; simp; omega)]

theorem holdsK_own (hk : ∀ x, (enc x).length = k) (hk0 : 0 < k) {xs : List α} (h : w.ownsRow base e k (.slice (some ⟨g, 0, none⟩) n cap) xs.length (xs.flatMap enc)) : HoldsK enc k w g 0 xs.toArray := by
  have hS := slAt_row hk h
  intro j hj
  rw [size_flatK] at hj
  refine ⟨?_, row_frozen h _⟩
  have hf := slAt_flat hk hS j
  have hj2 : j < (xs.flatMap enc).length := by rw [length_flatMap hk]; simpa using hj
  have := hf _ (List.getElem?_eq_getElem hj2)
  have hadd : (⟨g, 0, none⟩ : Addr).add j = ⟨g, 0 + j, none⟩ := by unfold Addr.add; split <;> simp_all
  rw [hadd] at this
  rw [this]
  have h2 := flatK_toList hk hk0 xs.toArray
  have h3 : (flatK enc k xs.toArray).toList[j]? = some (xs.flatMap enc)[j] := by rw [h2]; exact List.getElem?_eq_getElem hj2
  rw [Array.getElem?_toList] at h3
  rw [getElem!_pos _ _ (by simpa using hj)]
  rw [Array.getElem?_eq_getElem (by simpa using hj)] at h3
  exact h3.symm

theorem ownsRow_sortedK (hk : ∀ x, (enc x).length = k) (hk0 : 0 < k) {L : List Value} {m : Nat} {os : Array Obj} {d : Array α} (h : w.ownsRow base e k (.slice (some ⟨g, 0, none⟩) n cap) n L) (hd : d.size = n) :
    (sortWorldK enc k w g 0 m d os).ownsRow base e k (.slice (some ⟨g, 0, none⟩) n cap) n (d.toList.flatMap enc) := by
  subst hd
  rcases h.2 with ⟨h', _⟩ | ⟨g', cap', cur, h', hb, hg, hnc, hcm, hcs, htake⟩
  · simp at h'
  · simp only [Value.slice.injEq, Option.some.injEq, Addr.mk.injEq, and_true, true_and] at h'
    obtain ⟨rfl, rfl⟩ := h'
    have hlt : g < w.heap.size := (Array.getElem?_eq_some_iff.1 hg).1
    refine ⟨by rw [length_flatMap hk]; simp, .inr ⟨g, cap, putCells id 0 (flatK enc k d) cur, rfl, hb, ?_, hnc, hcm, by simp [putCells, hcs], ?_⟩⟩
    · show (grow (putRowK enc k (Sort.ahead w m) g 0 d) os).heap[g]? = _
      unfold grow putRowK putRow mapBlock Sort.ahead
      simp only
      rw [Array.getElem?_append_left (by simpa using hlt), Array.getElem?_modify, if_pos rfl, hg]
      rfl
    · rw [← flatK_toList hk hk0]
      have hc : d.size * k ≤ cur.size := by rw [hcs]; exact Nat.mul_le_mul_right _ hnc
      apply List.ext_getElem?
      intro t
      rw [List.getElem?_take]
      by_cases ht : t < d.size * k
      · rw [if_pos ht, Array.getElem?_toList, Array.getElem?_toList]
        unfold putCells
        rw [Array.getElem?_mapIdx, Array.getElem?_eq_getElem (show t < cur.size by omega), Array.getElem?_eq_getElem (show t < (flatK enc k d).size by simpa using ht)]
        simp only [Option.map_some, Nat.zero_le, Nat.zero_add, size_flatK, true_and, ht, if_true, Nat.sub_zero, id]
        rw [getElem!_pos _ _ (by simpa using ht)]
      · rw [if_neg ht, List.getElem?_eq_none (by simp; omega)]

theorem below_sortK {w0 : World} {B m : Nat} {os : Array Obj} {d : Array α} (h : Below B w0 w) (hb : B ≤ g) (hg : g < w.heap.size) : Below B w0 (sortWorldK enc k w g 0 m d os) :=
  h.trans ⟨rfl, rfl, rfl, by simp [sortWorldK, grow, putRowK, putRow, mapBlock, Sort.ahead], fun i hi => by
    show (grow (putRowK enc k (Sort.ahead w m) g 0 d) os).heap[i]? = _
    unfold grow putRowK putRow mapBlock Sort.ahead
    simp only
    rw [Array.getElem?_append_left (by simp; omega), Array.getElem?_modify, if_neg (by omega)]⟩

end

theorem ltOf_cmpE (x y : E) : ltOf cmpE x y = ltE x y := by
  rw [Bool.eq_iff_iff, ltE_iff]
  unfold ltOf cmpE orL orL orL orL cmpI
  simp only [decide_eq_true_eq]
  repeat' split
  all_goals omega

theorem swoE : SWO (ltOf cmpE) where
  irrefl x := by rw [ltOf_cmpE]; exact stoE.irrefl x
  trans x y z := by rw [ltOf_cmpE, ltOf_cmpE, ltOf_cmpE]; exact stoE.trans x y z
  ntrans x y z := by
    rw [ltOf_cmpE, ltOf_cmpE, ltOf_cmpE]
    simp only [Bool.eq_false_iff, ne_eq, ltE_iff]
    omega

/-- slices.SortFunc(s, f), s an edge row of the call's own, f a function that orders edges by 'cf'. -/
theorem sortFuncE (cf : E → E → Int) (hO : SWO (ltOf cf)) (f : Nat) (eg : ∀ args w, (callFunc f args).run Tryz.prog w = .ok (.enter f args) w)
    (hcmp : ∀ (x y : E) (W : World), Calls Tryz.prog f #[.agg #[.int .i64 x.1, .int .i64 x.2.1, .int .i64 x.2.2], .agg #[.int .i64 y.1, .int .i64 y.2.1, .int .i64 y.2.2]] W fun e w' => e = .returned (.int .i64 (cf x y)) ∧ ∃ q os', w' = Go.Sort.grow (W.drewN q) os')
    {base g n cap : Nat} {xs : List E} {w : World} (h : w.ownsRow base 79 3 (.slice (some ⟨g, 0, none⟩) n cap) xs.length (xs.flatMap encE)) (hn : n = xs.length) (hl : xs.length ≤ 1000000) :
    Calls Tryz.prog 51 #[.slice (some ⟨g, 0, none⟩) n cap, .func (.func f) #[] #[]] w fun e w' => e = .returned (.tuple #[]) ∧
      ∃ ys : List E, ys.Perm xs ∧ ys.Pairwise (fun a b => ltOf cf b a = false) ∧ w'.ownsRow base 79 3 (.slice (some ⟨g, 0, none⟩) n cap) n (ys.flatMap encE) ∧ (∀ {w0 : World}, Below base w0 w → Below base w0 w') := by
  subst hn
  have hlt := h.lt g rfl
  have hcon := AnyQ.slices_SortFunc Tryz.sortE 3 Tryz.isAgg79 Tryz.sizeOf79 encE lenE (fun x v hv => by simp [encE] at hv; rcases hv with rfl | rfl | rfl <;> rfl) cf hO f #[] g 0 cap xs.toArray w eg
    (fun m os dk _ x y => hcmp x y _) (holdsK_own lenE (by decide) h) hlt.2 (by simpa using by omega)
  change Calls Tryz.prog 51 _ _ _ at hcon
  refine hcon.mono ?_
  rintro e w' ⟨rfl, d', m, os, hp, hs, rfl⟩
  have hsz : d'.size = xs.length := by simpa using hp.1
  refine ⟨rfl, d'.toList, ?_, ?_, ?_, fun hB => below_sortK hB hlt.1 hlt.2⟩
  · have := hp.2.2
    simp only [Array.toList_extract, List.size_toArray, List.extract_eq_take_drop, Nat.sub_zero, List.drop_zero] at this
    rw [List.take_of_length_le (by simp [hsz]), List.take_of_length_le (Nat.le_refl _)] at this
    exact this
  · rw [List.pairwise_iff_getElem]
    intro i j hi hj hij
    have := hs i j (Nat.zero_le _) hij (by simpa [← hsz] using hj)
    rw [getElem!_pos _ _ (by simpa using hj), getElem!_pos _ _ (by simpa using hi)] at this
    simpa using this
  · have := ownsRow_sortedK (m := m) (os := os) (d := d') lenE (by decide) h hsz
    simpa using this

/-- .. of whatever row of the call's own, a nil one too. -/
theorem sortFuncE_v (cf : E → E → Int) (hO : SWO (ltOf cf)) (f : Nat) (eg : ∀ args w, (callFunc f args).run Tryz.prog w = .ok (.enter f args) w)
    (hcmp : ∀ (x y : E) (W : World), Calls Tryz.prog f #[.agg #[.int .i64 x.1, .int .i64 x.2.1, .int .i64 x.2.2], .agg #[.int .i64 y.1, .int .i64 y.2.1, .int .i64 y.2.2]] W fun e w' => e = .returned (.int .i64 (cf x y)) ∧ ∃ q os', w' = Go.Sort.grow (W.drewN q) os')
    {base : Nat} {v : Value} {xs : List E} {w : World} (h : w.ownsRow base 79 3 v xs.length (xs.flatMap encE)) (hl : xs.length ≤ 1000000) :
    Calls Tryz.prog 51 #[v, .func (.func f) #[] #[]] w fun e w' => e = .returned (.tuple #[]) ∧
      ∃ ys : List E, ys.Perm xs ∧ ys.Pairwise (fun a b => ltOf cf b a = false) ∧ w'.ownsRow base 79 3 v ys.length (ys.flatMap encE) ∧ (∀ {w0 : World}, Below base w0 w → Below base w0 w') := by
  rcases h.2 with ⟨rfl, hn⟩ | ⟨g, cap, cur, rfl, r⟩
  · have hx : xs = [] := List.eq_nil_of_length_eq_zero hn
    subst hx
    have hcon := AnyF.slices_SortFunc_none Tryz.sortE none 0 (.func (.func f) #[] #[]) w
    change Calls Tryz.prog 51 _ _ _ at hcon
    refine hcon.mono ?_
    rintro e w' ⟨rfl, rfl⟩
    exact ⟨rfl, [], List.Perm.refl _, List.Pairwise.nil, h, fun hB => hB⟩
  · refine (sortFuncE cf hO f eg hcmp h rfl hl).mono ?_
    rintro e w' ⟨rfl, ys, hp, hs, ho, hB⟩
    exact ⟨rfl, ys, hp, hs, by rw [hp.length_eq]; exact ho, hB⟩

set_option maxRecDepth 100000 in
theorem compactE_nil (w : World) : Calls Tryz.prog 128 #[.slice none 0 0] w fun e w' => e = .returned (.slice none 0 0) ∧ w = w' := by
  go_enter Tryz.func128, Tryz.ntmps128
  go_wp2
  go_ret
  exact ⟨rfl, rfl⟩

theorem compactE_v {base : Nat} {v : Value} {xs : List E} {w : World} (h : w.ownsRow base 79 3 v xs.length (xs.flatMap encE)) (hl : xs.length ≤ 1000000) :
    Calls Tryz.prog 128 #[v] w fun e w' => ∃ v', e = .returned v' ∧ w'.ownsRow base 79 3 v' (cmpt xs).length ((cmpt xs).flatMap encE) ∧ (∀ {w0 : World}, Below base w0 w → Below base w0 w') := by
  rcases h.2 with ⟨rfl, hn⟩ | ⟨g, cap, cur, rfl, hbg, hg, hnc, r⟩
  · have hx : xs = [] := List.eq_nil_of_length_eq_zero hn
    subst hx
    refine (compactE_nil w).mono ?_
    rintro e w' ⟨rfl, rfl⟩
    exact ⟨_, rfl, h, fun hB => hB⟩
  · refine (compactE_any h rfl hl hbg hnc).mono ?_
    rintro e w' ⟨m, rfl, ho, rfl, hB⟩
    exact ⟨_, rfl, ho, fun hB0 => hB0.trans hB⟩

set_option maxRecDepth 100000 in
/-- system.Sorted. -/
theorem sorted_any {a : Option Addr} {b off c : Nat} {xs : List E} {w : World} (h : SlAt encE 3 w a b off xs) (hl : xs.length ≤ 1000000) :
    Calls Tryz.prog 64 #[.slice a xs.length c] w fun e w' => ∃ v, e = .returned v ∧ w'.ownsRow w.heap.size 79 3 v (nf ltE xs).length ((nf ltE xs).flatMap encE) ∧ Below w.heap.size w w' := by
  have eg : ∀ args w, (callFunc 127 args).run Tryz.prog w = .ok (.enter 127 args) w := enters_of Tryz.func127 (by kernel_rfl) rfl
  have HE := Lib.hid eg; clear eg
  have hcl := cloneE_any (c := c) h hl
  have HC := Lib.hid hcl
  clear h hcl
  go_enter Tryz.func64, Tryz.ntmps64
  go_wp2_with (go_at_call 50; refine (HC.out).mono ?_; rintro e w1 ⟨v, rfl, hown, hB⟩; have HO := Lib.hid hown; clear hown)
  refine (sortFuncE_v cmpE swoE 127 HE.out (fun x y W => order_any x y W) HO.out hl).mono ?_
  rintro e w2 ⟨rfl, ys, hp, hs, hown, hB2⟩
  have hl2 : ys.length ≤ 1000000 := by rw [hp.length_eq]; exact hl
  have hfin : cmpt ys = nf ltE xs := by
    refine cmpt_eq_nf stoE ?_ (fun x => hp.mem_iff)
    exact hs.imp (fun {a b} h => by rw [ltOf_cmpE] at h; exact h)
  have HF := Lib.hid hfin
  have HO2 := Lib.hid hown
  have hB3 := hB2 hB
  clear hp hs hfin hown hB2 hB
  go_wp2_with (go_at_call 128; refine (compactE_v HO2.out hl2).mono ?_; rintro e w3 ⟨v3, rfl, hown3, hB4⟩)
  go_ret
  exact ⟨_, rfl, by rw [← HF.out]; exact hown3, hB4 hB3⟩

end Go.Proofs.YtkmljelgogcobaaGreatDoor

namespace Go.Proofs.YtkmljelgogcobaaGreatDoor
open Go.RowKit Pl

theorem check_ok {p : Addr} {s : Lts} (h : s.Right) (a : Option Addr) (b off c : Nat) (w : World) (hG : GErr 0 p w) (hS : SlAt encE 3 w a b off s.es) :
    Calls Tryz.prog 63 #[.agg #[.int .i64 s.st, .int .i64 s.lb, .int .i64 s.s0, .slice a s.es.length c]] w fun e w' => e = .returned .nilIface ∧ Below w.heap.size w w' := by
  refine (check_body s.st s.lb s.s0 a b off c s.es w hG h.head hS).mono ?_
  rintro e w' ⟨h1, h2⟩
  have : s.es.all (fun x => !offB s.st s.lb x) = true := by rw [List.all_eq_true]; intro x hx; simp [h.edges x hx]
  unfold CheckPost at h1
  rw [this] at h1
  exact ⟨h1, h2⟩

theorem check_no {p : Addr} {s : Lts} (h : ¬ s.Right) (a : Option Addr) (b off c : Nat) (w : World) (hG : GErr 0 p w) (hS : SlAt encE 3 w a b off s.es) :
    Calls Tryz.prog 63 #[.agg #[.int .i64 s.st, .int .i64 s.lb, .int .i64 s.s0, .slice a s.es.length c]] w fun e w' =>
      ∃ v, e = .returned v ∧ FaultAt w' v ⟨#[115, 121, 115, 116, 101, 109]⟩ (.iface 248 (.pointer (some p))) ∧ Below w.heap.size w w' := by
  by_cases hh : HeadBad s.st s.lb s.s0 s.es.length
  · exact check_head s.st s.lb s.s0 a s.es.length c w hG hh
  · refine (check_body s.st s.lb s.s0 a b off c s.es w hG hh hS).mono ?_
    rintro e w' ⟨h1, h2⟩
    have : s.es.all (fun x => !offB s.st s.lb x) = false := by
      rw [Bool.eq_false_iff]; intro ha; rw [List.all_eq_true] at ha
      exact h ⟨hh, fun x hx => by simpa using ha x hx⟩
    unfold CheckPost at h1
    rw [this] at h1
    obtain ⟨v, h1, h3⟩ := h1
    exact ⟨v, h1, h3, h2⟩

end Go.Proofs.YtkmljelgogcobaaGreatDoor

namespace Go.Proofs.YtkmljelgogcobaaGreatDoor
open Go.RowKit Pl

theorem key1_any (x : E) (W : World) : Calls Tryz.prog 48 #[.agg #[.int .i64 x.1, .int .i64 x.2.1, .int .i64 x.2.2]] W fun e w' => e = .returned (.int .i64 x.1) ∧ w' = W.alloc (.cells #[.int .i64 x.1, .int .i64 x.2.1, .int .i64 x.2.2] 79) := by
  go_enter Tryz.func48, Tryz.ntmps48
  go_wp2
  go_ret
  exact ⟨rfl, rfl⟩
theorem key4_any (x : E) (W : World) : Calls Tryz.prog 55 #[.agg #[.int .i64 x.1, .int .i64 x.2.1, .int .i64 x.2.2]] W fun e w' => e = .returned (.int .i64 x.2.2) ∧ w' = W.alloc (.cells #[.int .i64 x.1, .int .i64 x.2.1, .int .i64 x.2.2] 79) := by
  go_enter Tryz.func55, Tryz.ntmps55
  go_wp2
  go_ret
  exact ⟨rfl, rfl⟩
theorem step2_any (x : E) (W : World) : Calls Tryz.prog 49 #[.agg #[.int .i64 x.1, .int .i64 x.2.1, .int .i64 x.2.2]] W fun e w' => e = .returned (.agg #[.int .i64 x.2.1, .int .i64 x.2.2]) ∧ w' = (W.alloc (.cells #[.int .i64 x.1, .int .i64 x.2.1, .int .i64 x.2.2] 79)).alloc (.cells #[.int .i64 x.2.1, .int .i64 x.2.2] 92) := by
  go_enter Tryz.func49, Tryz.ntmps49
  go_wp2
  exact bodyPost_ret (v := .agg #[.int .i64 x.2.1, .int .i64 x.2.2]) (by simp [results, Tryz.results49, go_sem]) rfl ⟨rfl, rfl⟩
theorem step5_any (x : E) (W : World) : Calls Tryz.prog 56 #[.agg #[.int .i64 x.1, .int .i64 x.2.1, .int .i64 x.2.2]] W fun e w' => e = .returned (.agg #[.int .i64 x.2.1, .int .i64 x.1]) ∧ w' = (W.alloc (.cells #[.int .i64 x.1, .int .i64 x.2.1, .int .i64 x.2.2] 79)).alloc (.cells #[.int .i64 x.2.1, .int .i64 x.1] 92) := by
  go_enter Tryz.func56, Tryz.ntmps56
  go_wp2
  exact bodyPost_ret (v := .agg #[.int .i64 x.2.1, .int .i64 x.1]) (by simp [results, Tryz.results56, go_sem]) rfl ⟨rfl, rfl⟩

/-- The world within newRows: three blocks of its own, then the steps' row. -/
structure NR (w wr : World) (n : Nat) (fr : Nat → Int) (va : Value) (ss : List S) : Prop where
  below : Below w.heap.size w wr
  b0 : wr.heap[w.heap.size]? = some (.cells #[.slice none 0 0, .slice none 0 0] 86 (0, 0))
  b1 : wr.rowIs (w.heap.size + 1) 3 (n + 1) (fun j => .int .i64 (fr j))
  b2 : wr.heap[w.heap.size + 2]? = some (.cells #[va, .slice (some ⟨w.heap.size + 1, 0, none⟩) (n + 1) (n + 1)] 86 (0, 0))
  all : wr.ownsRow (w.heap.size + 3) 92 2 va ss.length (ss.flatMap encS)
  size : w.heap.size + 3 ≤ wr.heap.size

section
variable {w wr : World} {n : Nat} {fr : Nat → Int} {va : Value} {ss : List S}

theorem NR.alloc (h : NR w wr n fr va ss) (o : Obj) : NR w (wr.alloc o) n fr va ss :=
  ⟨h.below.alloc (by have := h.size; omega) o, by rw [Below.heap_alloc _ _ _ (by have := h.size; omega)]; exact h.b0, h.b1.alloc o,
    by rw [Below.heap_alloc _ _ _ (by have := h.size; omega)]; exact h.b2, h.all.alloc o, by have := h.size; simp; omega⟩
theorem NR.drewN (h : NR w wr n fr va ss) (m : Nat) : NR w (wr.drewN m) n fr va ss :=
  ⟨below_drewN h.below m, h.b0, h.b1, h.b2, h.all, h.size⟩
theorem NR.setFrom (h : NR w wr n fr va ss) (j : Nat) (v : Int) : NR w (wr.setCell ⟨w.heap.size + 1, j, none⟩ (.int .i64 v)) n (fun i => if i = j then v else fr i) va ss :=
  ⟨h.below.setCell (by show w.heap.size ≤ w.heap.size + 1; omega) _, by rw [Below.heap_setCell _ _ _ _ (by show w.heap.size ≠ w.heap.size + 1; omega)]; exact h.b0,
    (h.b1.set j _).congr (fun i _ => by split <;> rfl), by rw [Below.heap_setCell _ _ _ _ (by show w.heap.size + 2 ≠ w.heap.size + 1; omega)]; exact h.b2,
    ownsRow_setCell_below h.all (by show w.heap.size + 1 < w.heap.size + 3; omega) _, by have := h.size; simpa [World.setCell] using this⟩
theorem NR.setAll (h : NR w wr n fr va ss) {w1 : World} {va' : Value} {ss' : List S} (hown : w1.ownsRow (w.heap.size + 3) 92 2 va' ss'.length (ss'.flatMap encS)) (hg : wr.grownBy w1 va.ownBlock) :
    NR w (w1.setCell ⟨w.heap.size + 2, 0, none⟩ va') n fr va' ss' := by
  have hs := h.size
  have hb : ∀ k, k < w.heap.size + 3 → w1.heap[k]? = wr.heap[k]? := fun k hk => hg.block k (by omega) (fun e => by have := (h.all.lt k e.symm).1; omega)
  have hs1 := hg.size
  refine ⟨(h.below.grown hg (by omega) (fun k hk => by have := (h.all.lt k hk).1; omega)).setCell (by show w.heap.size ≤ w.heap.size + 2; omega) _, ?_, ?_, ?_, ownsRow_setCell_below hown (by show w.heap.size + 2 < w.heap.size + 3; omega) _, ?_⟩
  · rw [Below.heap_setCell _ _ _ _ (by show w.heap.size ≠ w.heap.size + 2; omega), hb _ (by omega)]; exact h.b0
  · exact (h.b1.of_block (hb _ (by omega))).setOther (by show w.heap.size + 1 ≠ w.heap.size + 2; omega) _
  · have := h.b2
    rw [← hb _ (by omega)] at this
    simp only [World.setCell, Array.getElem?_modify, if_true, this]
    rfl
  · have := h.size; simp [World.setCell]; omega
theorem NR.congr {fr' : Nat → Int} (h : NR w wr n fr va ss) (e : ∀ i, fr i = fr' i) : NR w wr n fr' va ss := by
  have : fr = fr' := funext e
  rw [← this]; exact h
theorem NR.c0 (h : NR w wr n fr va ss) : wr.cell? ⟨w.heap.size + 2, 0, none⟩ = some va := by simp [World.cell?, h.b2]
theorem NR.c1 (h : NR w wr n fr va ss) : wr.cell? ⟨w.heap.size + 2, 1, none⟩ = some (.slice (some ⟨w.heap.size + 1, 0, none⟩) (n + 1) (n + 1)) := by simp [World.cell?, h.b2]
theorem NR.fz (h : NR w wr n fr va ss) (j : Nat) : wr.frozen? ⟨w.heap.size + 2, j, none⟩ = false := by simp [World.frozen?, h.b2]
theorem NR.keep (h : NR w wr n fr va ss) {w1 : World} (hg : wr.grownBy w1 va.ownBlock) : w1.cell? ⟨w.heap.size + 1 + 1, 0, none⟩ = some va ∧ w1.frozen? ⟨w.heap.size + 1 + 1, 0, none⟩ = false := by
  have hb : w1.heap[w.heap.size + 2]? = wr.heap[w.heap.size + 2]? := hg.block _ (by have := h.size; omega) (fun e => by have := (h.all.lt _ e.symm).1; omega)
  exact ⟨by rw [World.cell?_of_block (w := wr) (a := ⟨w.heap.size + 1 + 1, 0, none⟩) hb]; exact h.c0, by rw [World.frozen?_of_block (w := wr) (a := ⟨w.heap.size + 1 + 1, 0, none⟩) hb]; exact h.fz 0⟩
theorem NR.d0 (h : NR w wr n fr va ss) : wr.cell? ⟨w.heap.size, 0, none⟩ = some (.slice none 0 0) := by simp [World.cell?, h.b0]
theorem NR.d1 (h : NR w wr n fr va ss) : wr.cell? ⟨w.heap.size, 1, none⟩ = some (.slice none 0 0) := by simp [World.cell?, h.b0]
theorem NR.dz (h : NR w wr n fr va ss) (j : Nat) : wr.frozen? ⟨w.heap.size, j, none⟩ = false := by simp [World.frozen?, h.b0]
end

theorem NR.start (w : World) (n : Nat) (fr : Nat → Int) (hf : ∀ i, fr i = 0) :
    NR w (((w.alloc (Obj.cells #[Value.slice none 0 0, Value.slice none 0 0] 86)).alloc (Obj.cells (madeCells #[Value.int IntKind.i64 0] (n + 1)) 3)).alloc (Obj.cells #[Value.slice none 0 0, Value.slice (some ⟨w.heap.size + 1, 0, none⟩) (n + 1) (n + 1)] 86)) n fr (.slice none 0 0) [] := by
  refine ⟨((((Below.refl _ _).alloc (Nat.le_refl _) _).alloc (by simp) _).alloc (by simp; omega) _), ?_, ?_, ?_, World.ownsRow_nil _ _ _ _, by simp⟩
  · rw [Below.heap_alloc _ _ _ (by simp; omega), Below.heap_alloc _ _ _ (by simp), heap_alloc_new]
  · have := (World.rowIs_made (w.alloc (Obj.cells #[Value.slice none 0 0, Value.slice none 0 0] 86)) (.int .i64 0) (n + 1) 3).alloc (Obj.cells #[Value.slice none 0 0, Value.slice (some ⟨w.heap.size + 1, 0, none⟩) (n + 1) (n + 1)] 86)
    refine (by simpa using this : World.rowIs _ (w.heap.size + 1) _ _ _).congr (fun i _ => by rw [hf])
  · simpa using heap_alloc_new ((w.alloc (Obj.cells #[Value.slice none 0 0, Value.slice none 0 0] 86)).alloc (Obj.cells (madeCells #[Value.int IntKind.i64 0] (n + 1)) 3)) (Obj.cells #[Value.slice none 0 0, Value.slice (some ⟨w.heap.size + 1, 0, none⟩) (n + 1) (n + 1)] 86)

/-- How many of a list's first k keys are i. -/
def cntk (key : E → Int) (l : List E) (i : Nat) : Int := (l.filter (fun x => key x + 1 == (i : Int))).length
theorem cntk_snoc (key : E → Int) (l : List E) (x : E) (i : Nat) : cntk key (l ++ [x]) i = cntk key l i + if key x + 1 = (i : Int) then 1 else 0 := by
  unfold cntk
  rw [List.filter_append]
  by_cases h : key x + 1 = (i : Int) <;> simp [h]
theorem cntk_le (key : E → Int) (l : List E) (i : Nat) : 0 ≤ cntk key l i ∧ cntk key l i ≤ l.length := by
  unfold cntk
  have := List.length_filter_le (fun x => key x + 1 == (i : Int)) l
  omega

/-- What the second loop makes of the counts: sums up to place k. -/
def frOf (key : E → Int) (xs : List E) (k : Nat) (i : Nat) : Int := if i ≤ k then ((xs.filter (fun x => decide (key x < (i : Int)))).length : Int) else cntk key xs i
theorem frOf_zero (key : E → Int) {xs : List E} (h : ∀ x ∈ xs, 0 ≤ key x) (i : Nat) : frOf key xs 0 i = cntk key xs i := by
  unfold frOf
  split
  · have : i = 0 := by omega
    subst this
    unfold cntk
    congr 1
    have h1 : xs.filter (fun x => decide (key x < ((0 : Nat) : Int))) = [] := by
      rw [List.filter_eq_nil_iff]; intro x hx; have := h x hx; simp; omega
    have h2 : xs.filter (fun x => key x + 1 == ((0 : Nat) : Int)) = [] := by
      rw [List.filter_eq_nil_iff]; intro x hx; have := h x hx; simp; omega
    rw [h1, h2]
  · rfl
theorem pre_succ (key : E → Int) (k : Nat) : ∀ xs : List E, ((xs.filter (fun x => decide (key x < ((k + 1 : Nat) : Int)))).length : Int) = cntk key xs (k + 1) + (xs.filter (fun x => decide (key x < (k : Int)))).length
  | [] => by simp [cntk]
  | x :: xs => by
    have ih := pre_succ key k xs
    unfold cntk at *
    simp only [List.filter_cons]
    by_cases h1 : key x < (k : Int)
    · have b1 : decide (key x < (k : Int)) = true := by simp [h1]
      have b2 : decide (key x < ((k + 1 : Nat) : Int)) = true := by simp; omega
      have b3 : (key x + 1 == ((k + 1 : Nat) : Int)) = false := by simp; omega
      simp only [b1, b2, b3, if_true, Bool.false_eq_true, if_false, List.length_cons]; omega
    · have b1 : decide (key x < (k : Int)) = false := by simp; omega
      by_cases h2 : key x < ((k + 1 : Nat) : Int)
      · have b2 : decide (key x < ((k + 1 : Nat) : Int)) = true := by simp; omega
        have b3 : (key x + 1 == ((k + 1 : Nat) : Int)) = true := by simp; omega
        simp only [b1, b2, b3, if_true, Bool.false_eq_true, if_false, List.length_cons]; omega
      · have b2 : decide (key x < ((k + 1 : Nat) : Int)) = false := by simp; omega
        have b3 : (key x + 1 == ((k + 1 : Nat) : Int)) = false := by simp; omega
        simp only [b1, b2, b3, Bool.false_eq_true, if_false]; omega
theorem frOf_step (key : E → Int) (xs : List E) (k : Nat) : frOf key xs (k + 1) (k + 1) = frOf key xs k (k + 1) + frOf key xs k k := by
  unfold frOf
  rw [if_pos (Nat.le_refl _), if_neg (by omega), if_pos (Nat.le_refl _)]
  exact pre_succ key k xs
theorem frOf_bd (key : E → Int) (xs : List E) (k i : Nat) : 0 ≤ frOf key xs k i ∧ frOf key xs k i ≤ xs.length := by
  unfold frOf
  split
  · have := List.length_filter_le (fun x => decide (key x < (i : Int))) xs; omega
  · exact cntk_le _ _ _
theorem frOf_next (key : E → Int) (xs : List E) (k i : Nat) : (if i = k + 1 then frOf key xs k (k + 1) + frOf key xs k k else frOf key xs k i) = frOf key xs (k + 1) i := by
  by_cases h : i = k + 1
  · subst h; rw [if_pos rfl, frOf_step]
  · rw [if_neg h]; unfold frOf
    by_cases h2 : i ≤ k
    · rw [if_pos h2, if_pos (by omega)]
    · rw [if_neg h2, if_neg (by omega)]


end Go.Proofs.YtkmljelgogcobaaGreatDoor
