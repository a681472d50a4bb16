/-
  What the list deBruijn64tab, errorType, ErrArg, ErrLong, ErrIndex, ErrWord, ErrSyntax, ErrDeep, ErrTwice, ErrUnknown, ErrSilent, ErrUnguarded, ErrSteps, ErrStates, ErrEdges, ErrSystem, ErrClasses, ErrFormula, ErrLimit, ErrNone, ErrScript, errGreat of a row gives; a world for the witness.
  semblanceref1.Bad: the reference's errors.
  semblancebook.SameEdges, SameSystem.
  semblanceref7.less, Sorted; semblancebook.SameEdges, SameSystem.
-/
import Derived.Test.YtdhloijdefnkpaaGreatDoorGPl9
import Derived.Test.YtdhloijdefnkpaaGreatDoorGWkC
import Derived.Test.YtdhloijdefnkpaaGreatDoorWkB
import Derived.Stop.LaidTwo
import Derived.Lib.LaidTab
import Derived.Lib.ItoaNum
import Derived.Test.YtdhloijdefnkpaaGreatDoorGFault
import Derived.Test.YtdhloijdefnkpaaGreatDoorGGraphC
import Derived.Test.YtdhloijdefnkpaaGreatDoorGKeyE
import Derived.Deep.RegionHeld3
import Derived.Deep.Cut
import Derived.Deep.CutRange
import Derived.Deep.QuietTactic
import Derived.BigQuiet
import Derived.IntWalk
import Derived.Deep.DeepMust
namespace Go.Proofs.YtdhloijdefnkpaaGreatDoor
open Go.ChangeShapes Go.WideShapes Go.ChangeAt Go.RowKit Go.Lib

def laidWcl : List (String × DataW Unit) := [("math/bits.deBruijn64tab", Rows.laid_math_bits_deBruijn64tab), ("errors.errorType", Rows.laid_errors_errorType), ("semblance/api.ErrArg", Rows.laid_semblance_api_ErrArg), ("semblance/api.ErrLong", Rows.laid_semblance_api_ErrLong), ("semblance/api.ErrIndex", Rows.laid_semblance_api_ErrIndex), ("semblance/api.ErrWord", Rows.laid_semblance_api_ErrWord), ("semblance/api.ErrSyntax", Rows.laid_semblance_api_ErrSyntax), ("semblance/api.ErrDeep", Rows.laid_semblance_api_ErrDeep), ("semblance/api.ErrTwice", Rows.laid_semblance_api_ErrTwice), ("semblance/api.ErrUnknown", Rows.laid_semblance_api_ErrUnknown), ("semblance/api.ErrSilent", Rows.laid_semblance_api_ErrSilent), ("semblance/api.ErrUnguarded", Rows.laid_semblance_api_ErrUnguarded), ("semblance/api.ErrSteps", Rows.laid_semblance_api_ErrSteps), ("semblance/api.ErrStates", Rows.laid_semblance_api_ErrStates), ("semblance/api.ErrEdges", Rows.laid_semblance_api_ErrEdges), ("semblance/api.ErrSystem", Rows.laid_semblance_api_ErrSystem), ("semblance/api.ErrClasses", Rows.laid_semblance_api_ErrClasses), ("semblance/api.ErrFormula", Rows.laid_semblance_api_ErrFormula), ("semblance/api.ErrLimit", Rows.laid_semblance_api_ErrLimit), ("semblance/api.ErrNone", Rows.laid_semblance_api_ErrNone), ("semblance/api.ErrScript", Rows.laid_semblance_api_ErrScript), ("semblance/weak.errGreat", Rows.laid_semblance_weak_errGreat)]
noncomputable def laidWorldWcl (os : Os) : World :=
  let N := (World.settled Tryz.prog os).heap.size
  let w0 := World.holding Tryz.prog os ⟨#[.cells #[.string ⟨([97, 110, 32, 97, 114, 103, 117, 109, 101, 110, 116, 32, 116, 104, 97, 116, 32, 99, 97, 110, 39, 116, 32, 98, 101] : List UInt8).toArray⟩] 303, .cells #[.string ⟨([116, 111, 111, 32, 108, 111, 110, 103, 44, 32, 111, 114, 32, 116, 111, 111, 32, 109, 97, 110, 121] : List UInt8).toArray⟩] 303, .cells #[.string ⟨([97, 32, 110, 117, 109, 98, 101, 114, 32, 116, 104, 97, 116, 32, 105, 115, 32, 110, 111, 116, 32, 116, 104, 101, 114, 101] : List UInt8).toArray⟩] 303, .cells #[.string ⟨([97, 32, 99, 104, 97, 114, 97, 99, 116, 101, 114, 32, 116, 104, 97, 116, 32, 98, 101, 103, 105, 110, 115, 32, 110, 111, 32, 119, 111, 114, 100] : List UInt8).toArray⟩] 303, .cells #[.string ⟨([97, 32, 119, 111, 114, 100, 32, 116, 104, 97, 116, 32, 99, 97, 110, 39, 116, 32, 115, 116, 97, 110, 100, 32, 116, 104, 101, 114, 101] : List UInt8).toArray⟩] 303, .cells #[.string ⟨([98, 114, 97, 99, 107, 101, 116, 115, 32, 116, 104, 97, 116, 32, 115, 116, 97, 110, 100, 32, 116, 111, 111, 32, 100, 101, 101, 112] : List UInt8).toArray⟩] 303, .cells #[.string ⟨([115, 111, 109, 101, 116, 104, 105, 110, 103, 32, 116, 104, 97, 116, 32, 115, 116, 97, 110, 100, 115, 32, 116, 104, 101, 114, 101, 32, 97, 108, 114, 101, 97, 100, 121] : List UInt8).toArray⟩] 303, .cells #[.string ⟨([97, 32, 110, 97, 109, 101, 32, 116, 104, 97, 116, 32, 105, 115, 32, 110, 111, 116, 32, 116, 104, 101, 114, 101] : List UInt8).toArray⟩] 303, .cells #[.string ⟨([116, 104, 101, 32, 115, 105, 108, 101, 110, 116, 32, 97, 99, 116, 105, 111, 110, 44, 32, 119, 104, 101, 114, 101, 32, 105, 116, 32, 99, 97, 110, 39, 116, 32, 115, 116, 97, 110, 100] : List UInt8).toArray⟩] 303, .cells #[.string ⟨([97, 32, 99, 111, 110, 115, 116, 97, 110, 116, 32, 116, 104, 97, 116, 32, 110, 101, 101, 100, 115, 32, 105, 116, 115, 101, 108, 102, 32, 102, 105, 114, 115, 116] : List UInt8).toArray⟩] 303, .cells #[.string ⟨([97, 32, 116, 101, 114, 109, 32, 119, 105, 116, 104, 32, 116, 111, 111, 32, 109, 97, 110, 121, 32, 115, 116, 101, 112, 115] : List UInt8).toArray⟩] 303, .cells #[.string ⟨([116, 111, 111, 32, 109, 97, 110, 121, 32, 115, 116, 97, 116, 101, 115] : List UInt8).toArray⟩] 303, .cells #[.string ⟨([116, 111, 111, 32, 109, 97, 110, 121, 32, 101, 100, 103, 101, 115] : List UInt8).toArray⟩] 303, .cells #[.string ⟨([97, 32, 115, 121, 115, 116, 101, 109, 32, 116, 104, 97, 116, 32, 105, 115, 32, 110, 111, 110, 101] : List UInt8).toArray⟩] 303, .cells #[.string ⟨([99, 108, 97, 115, 115, 101, 115, 32, 116, 104, 97, 116, 32, 97, 114, 101, 32, 110, 111, 110, 101] : List UInt8).toArray⟩] 303, .cells #[.string ⟨([97, 32, 102, 111, 114, 109, 117, 108, 97, 32, 116, 104, 97, 116, 32, 105, 115, 32, 110, 111, 110, 101] : List UInt8).toArray⟩] 303, .cells #[.string ⟨([97, 32, 102, 111, 114, 109, 117, 108, 97, 32, 116, 104, 97, 116, 32, 119, 111, 117, 108, 100, 32, 98, 101, 32, 116, 111, 111, 32, 103, 114, 101, 97, 116] : List UInt8).toArray⟩] 303, .cells #[.string ⟨([116, 104, 101, 114, 101, 32, 105, 115, 32, 110, 111, 110, 101] : List UInt8).toArray⟩] 303, .cells #[.string ⟨([97, 32, 115, 99, 114, 105, 112, 116, 32, 116, 104, 97, 116, 32, 105, 115, 32, 110, 111, 110, 101] : List UInt8).toArray⟩] 303, .cells #[.string ⟨([97, 32, 115, 121, 115, 116, 101, 109, 32, 116, 104, 97, 116, 32, 105, 115, 32, 116, 111, 111, 32, 103, 114, 101, 97, 116] : List UInt8).toArray⟩] 303], #[], []⟩
  let put := fun (h : Array Obj) (g : Nat) (cs : Array Value) => h.modify g fun
      | .cells _ t frozen => .cells cs t frozen
      | o => o
  { w0 with heap := put (put (put (put (put (put (put (put (put (put (put (put (put (put (put (put (put (put (put (put (put (put (w0.heap) 13 #[.int .u8 0, .int .u8 1, .int .u8 56, .int .u8 2, .int .u8 57, .int .u8 49, .int .u8 28, .int .u8 3, .int .u8 61, .int .u8 58, .int .u8 42, .int .u8 50, .int .u8 38, .int .u8 29, .int .u8 17, .int .u8 4, .int .u8 62, .int .u8 47, .int .u8 59, .int .u8 36, .int .u8 45, .int .u8 43, .int .u8 51, .int .u8 22, .int .u8 53, .int .u8 39, .int .u8 33, .int .u8 30, .int .u8 24, .int .u8 18, .int .u8 12, .int .u8 5, .int .u8 63, .int .u8 55, .int .u8 48, .int .u8 27, .int .u8 60, .int .u8 41, .int .u8 37, .int .u8 16, .int .u8 46, .int .u8 35, .int .u8 44, .int .u8 21, .int .u8 52, .int .u8 32, .int .u8 23, .int .u8 11, .int .u8 54, .int .u8 26, .int .u8 40, .int .u8 15, .int .u8 34, .int .u8 20, .int .u8 31, .int .u8 10, .int .u8 25, .int .u8 14, .int .u8 19, .int .u8 9, .int .u8 13, .int .u8 8, .int .u8 7, .int .u8 6]) 21 #[.iface 144 (.agg #[.pointer (some ⟨24, 28, none⟩)])]) 5 #[.iface 285 (.pointer (some ⟨N + 0, 0, none⟩))]) 4 #[.iface 285 (.pointer (some ⟨N + 1, 0, none⟩))]) 2 #[.iface 285 (.pointer (some ⟨N + 2, 0, none⟩))]) 6 #[.iface 285 (.pointer (some ⟨N + 3, 0, none⟩))]) 7 #[.iface 285 (.pointer (some ⟨N + 4, 0, none⟩))]) 8 #[.iface 285 (.pointer (some ⟨N + 5, 0, none⟩))]) 9 #[.iface 285 (.pointer (some ⟨N + 6, 0, none⟩))]) 10 #[.iface 285 (.pointer (some ⟨N + 7, 0, none⟩))]) 11 #[.iface 285 (.pointer (some ⟨N + 8, 0, none⟩))]) 12 #[.iface 285 (.pointer (some ⟨N + 9, 0, none⟩))]) 14 #[.iface 285 (.pointer (some ⟨N + 10, 0, none⟩))]) 15 #[.iface 285 (.pointer (some ⟨N + 11, 0, none⟩))]) 0 #[.iface 285 (.pointer (some ⟨N + 12, 0, none⟩))]) 1 #[.iface 285 (.pointer (some ⟨N + 13, 0, none⟩))]) 16 #[.iface 285 (.pointer (some ⟨N + 14, 0, none⟩))]) 17 #[.iface 285 (.pointer (some ⟨N + 15, 0, none⟩))]) 18 #[.iface 285 (.pointer (some ⟨N + 16, 0, none⟩))]) 19 #[.iface 285 (.pointer (some ⟨N + 17, 0, none⟩))]) 20 #[.iface 285 (.pointer (some ⟨N + 18, 0, none⟩))]) 3 #[.iface 285 (.pointer (some ⟨N + 19, 0, none⟩))] }
theorem laidInWcl (os : Os) (args : Array Value) : LaidIn Tryz.prog ((laidWorldWcl os).forCall (fun _ _ => 0) ⟨#[], args, []⟩).memory [("math/bits.deBruijn64tab", Rows.laid_math_bits_deBruijn64tab), ("semblance/api.ErrArg", Rows.laid_semblance_api_ErrArg), ("semblance/api.ErrLong", Rows.laid_semblance_api_ErrLong), ("semblance/api.ErrIndex", Rows.laid_semblance_api_ErrIndex), ("semblance/api.ErrWord", Rows.laid_semblance_api_ErrWord), ("semblance/api.ErrSyntax", Rows.laid_semblance_api_ErrSyntax), ("semblance/api.ErrDeep", Rows.laid_semblance_api_ErrDeep), ("semblance/api.ErrTwice", Rows.laid_semblance_api_ErrTwice), ("semblance/api.ErrUnknown", Rows.laid_semblance_api_ErrUnknown), ("semblance/api.ErrSilent", Rows.laid_semblance_api_ErrSilent), ("semblance/api.ErrUnguarded", Rows.laid_semblance_api_ErrUnguarded), ("semblance/api.ErrSteps", Rows.laid_semblance_api_ErrSteps), ("semblance/api.ErrStates", Rows.laid_semblance_api_ErrStates), ("semblance/api.ErrEdges", Rows.laid_semblance_api_ErrEdges), ("semblance/api.ErrSystem", Rows.laid_semblance_api_ErrSystem), ("semblance/api.ErrClasses", Rows.laid_semblance_api_ErrClasses), ("semblance/api.ErrFormula", Rows.laid_semblance_api_ErrFormula), ("semblance/api.ErrLimit", Rows.laid_semblance_api_ErrLimit), ("semblance/api.ErrNone", Rows.laid_semblance_api_ErrNone), ("semblance/api.ErrScript", Rows.laid_semblance_api_ErrScript), ("semblance/weak.errGreat", Rows.laid_semblance_weak_errGreat)] [13, 5, 4, 2, 6, 7, 8, 9, 10, 11, 12, 14, 15, 0, 1, 16, 17, 18, 19, 20, 3, nBlock + 0, nBlock + 1, nBlock + 2, nBlock + 3, nBlock + 4, nBlock + 5, nBlock + 6, nBlock + 7, nBlock + 8, nBlock + 9, nBlock + 10, nBlock + 11, nBlock + 12, nBlock + 13, nBlock + 14, nBlock + 15, nBlock + 16, nBlock + 17, nBlock + 18, nBlock + 19] :=
  LaidIn.of_run [13, 5, 4, 2, 6, 7, 8, 9, 10, 11, 12, 14, 15, 0, 1, 16, 17, 18, 19, 20, 3, nBlock + 0, nBlock + 1, nBlock + 2, nBlock + 3, nBlock + 4, nBlock + 5, nBlock + 6, nBlock + 7, nBlock + 8, nBlock + 9, nBlock + 10, nBlock + 11, nBlock + 12, nBlock + 13, nBlock + 14, nBlock + 15, nBlock + 16, nBlock + 17, nBlock + 18, nBlock + 19] 8 (by kernel_rfl) (by kernel_rfl) (by kernel_rfl) (by kernel_rfl)
theorem laid_metWcl (os : Os) (args : Array Value) : laidMetH Tryz.prog laidWcl ((laidWorldWcl os).forCall (fun _ _ => 0) ⟨#[], args, []⟩).memory :=
  laidMetH_of_parts (laidInWcl os args).met (by kernel_rfl)
theorem laidWcl_data {W : World} (h : laidMetH Tryz.prog laidWcl W) : laidMet Tryz.prog [("math/bits.deBruijn64tab", Rows.laid_math_bits_deBruijn64tab), ("semblance/api.ErrArg", Rows.laid_semblance_api_ErrArg), ("semblance/api.ErrLong", Rows.laid_semblance_api_ErrLong), ("semblance/api.ErrIndex", Rows.laid_semblance_api_ErrIndex), ("semblance/api.ErrWord", Rows.laid_semblance_api_ErrWord), ("semblance/api.ErrSyntax", Rows.laid_semblance_api_ErrSyntax), ("semblance/api.ErrDeep", Rows.laid_semblance_api_ErrDeep), ("semblance/api.ErrTwice", Rows.laid_semblance_api_ErrTwice), ("semblance/api.ErrUnknown", Rows.laid_semblance_api_ErrUnknown), ("semblance/api.ErrSilent", Rows.laid_semblance_api_ErrSilent), ("semblance/api.ErrUnguarded", Rows.laid_semblance_api_ErrUnguarded), ("semblance/api.ErrSteps", Rows.laid_semblance_api_ErrSteps), ("semblance/api.ErrStates", Rows.laid_semblance_api_ErrStates), ("semblance/api.ErrEdges", Rows.laid_semblance_api_ErrEdges), ("semblance/api.ErrSystem", Rows.laid_semblance_api_ErrSystem), ("semblance/api.ErrClasses", Rows.laid_semblance_api_ErrClasses), ("semblance/api.ErrFormula", Rows.laid_semblance_api_ErrFormula), ("semblance/api.ErrLimit", Rows.laid_semblance_api_ErrLimit), ("semblance/api.ErrNone", Rows.laid_semblance_api_ErrNone), ("semblance/api.ErrScript", Rows.laid_semblance_api_ErrScript), ("semblance/weak.errGreat", Rows.laid_semblance_weak_errGreat)] W := (show laidMet Tryz.prog [("math/bits.deBruijn64tab", Rows.laid_math_bits_deBruijn64tab), ("semblance/api.ErrArg", Rows.laid_semblance_api_ErrArg), ("semblance/api.ErrLong", Rows.laid_semblance_api_ErrLong), ("semblance/api.ErrIndex", Rows.laid_semblance_api_ErrIndex), ("semblance/api.ErrWord", Rows.laid_semblance_api_ErrWord), ("semblance/api.ErrSyntax", Rows.laid_semblance_api_ErrSyntax), ("semblance/api.ErrDeep", Rows.laid_semblance_api_ErrDeep), ("semblance/api.ErrTwice", Rows.laid_semblance_api_ErrTwice), ("semblance/api.ErrUnknown", Rows.laid_semblance_api_ErrUnknown), ("semblance/api.ErrSilent", Rows.laid_semblance_api_ErrSilent), ("semblance/api.ErrUnguarded", Rows.laid_semblance_api_ErrUnguarded), ("semblance/api.ErrSteps", Rows.laid_semblance_api_ErrSteps), ("semblance/api.ErrStates", Rows.laid_semblance_api_ErrStates), ("semblance/api.ErrEdges", Rows.laid_semblance_api_ErrEdges), ("semblance/api.ErrSystem", Rows.laid_semblance_api_ErrSystem), ("semblance/api.ErrClasses", Rows.laid_semblance_api_ErrClasses), ("semblance/api.ErrFormula", Rows.laid_semblance_api_ErrFormula), ("semblance/api.ErrLimit", Rows.laid_semblance_api_ErrLimit), ("semblance/api.ErrNone", Rows.laid_semblance_api_ErrNone), ("semblance/api.ErrScript", Rows.laid_semblance_api_ErrScript), ("semblance/weak.errGreat", Rows.laid_semblance_weak_errGreat)] W ∧ handlesMet Tryz.prog [("errors.errorType", Rows.laid_errors_errorType)] W from h).1
theorem laidWcl_errType {W : World} (h : laidMetH Tryz.prog laidWcl W) : ErrType W := errType_of (show laidMet Tryz.prog [("math/bits.deBruijn64tab", Rows.laid_math_bits_deBruijn64tab), ("semblance/api.ErrArg", Rows.laid_semblance_api_ErrArg), ("semblance/api.ErrLong", Rows.laid_semblance_api_ErrLong), ("semblance/api.ErrIndex", Rows.laid_semblance_api_ErrIndex), ("semblance/api.ErrWord", Rows.laid_semblance_api_ErrWord), ("semblance/api.ErrSyntax", Rows.laid_semblance_api_ErrSyntax), ("semblance/api.ErrDeep", Rows.laid_semblance_api_ErrDeep), ("semblance/api.ErrTwice", Rows.laid_semblance_api_ErrTwice), ("semblance/api.ErrUnknown", Rows.laid_semblance_api_ErrUnknown), ("semblance/api.ErrSilent", Rows.laid_semblance_api_ErrSilent), ("semblance/api.ErrUnguarded", Rows.laid_semblance_api_ErrUnguarded), ("semblance/api.ErrSteps", Rows.laid_semblance_api_ErrSteps), ("semblance/api.ErrStates", Rows.laid_semblance_api_ErrStates), ("semblance/api.ErrEdges", Rows.laid_semblance_api_ErrEdges), ("semblance/api.ErrSystem", Rows.laid_semblance_api_ErrSystem), ("semblance/api.ErrClasses", Rows.laid_semblance_api_ErrClasses), ("semblance/api.ErrFormula", Rows.laid_semblance_api_ErrFormula), ("semblance/api.ErrLimit", Rows.laid_semblance_api_ErrLimit), ("semblance/api.ErrNone", Rows.laid_semblance_api_ErrNone), ("semblance/api.ErrScript", Rows.laid_semblance_api_ErrScript), ("semblance/weak.errGreat", Rows.laid_semblance_weak_errGreat)] W ∧ handlesMet Tryz.prog [("errors.errorType", Rows.laid_errors_errorType)] W from h).2
theorem laidWcl_ErrArg {W : World} (h : laidMetH Tryz.prog laidWcl W) : ∃ p, GErr 5 p W := gerr_of (n := "semblance/api.ErrArg") (laidMet_subl (.cons _ (.cons_cons _ (List.nil_sublist _))) (laidWcl_data h)) (by kernel_rfl) (by kernel_rfl)
theorem laidWcl_ErrLong {W : World} (h : laidMetH Tryz.prog laidWcl W) : ∃ p, GErr 4 p W := gerr_of (n := "semblance/api.ErrLong") (laidMet_subl (.cons _ (.cons _ (.cons_cons _ (List.nil_sublist _)))) (laidWcl_data h)) (by kernel_rfl) (by kernel_rfl)
theorem laidWcl_ErrIndex {W : World} (h : laidMetH Tryz.prog laidWcl W) : ∃ p, GErr 2 p W := gerr_of (n := "semblance/api.ErrIndex") (laidMet_subl (.cons _ (.cons _ (.cons _ (.cons_cons _ (List.nil_sublist _))))) (laidWcl_data h)) (by kernel_rfl) (by kernel_rfl)
theorem laidWcl_ErrWord {W : World} (h : laidMetH Tryz.prog laidWcl W) : ∃ p, GErr 6 p W := gerr_of (n := "semblance/api.ErrWord") (laidMet_subl (.cons _ (.cons _ (.cons _ (.cons _ (.cons_cons _ (List.nil_sublist _)))))) (laidWcl_data h)) (by kernel_rfl) (by kernel_rfl)
theorem laidWcl_ErrSyntax {W : World} (h : laidMetH Tryz.prog laidWcl W) : ∃ p, GErr 7 p W := gerr_of (n := "semblance/api.ErrSyntax") (laidMet_subl (.cons _ (.cons _ (.cons _ (.cons _ (.cons _ (.cons_cons _ (List.nil_sublist _))))))) (laidWcl_data h)) (by kernel_rfl) (by kernel_rfl)
theorem laidWcl_ErrDeep {W : World} (h : laidMetH Tryz.prog laidWcl W) : ∃ p, GErr 8 p W := gerr_of (n := "semblance/api.ErrDeep") (laidMet_subl (.cons _ (.cons _ (.cons _ (.cons _ (.cons _ (.cons _ (.cons_cons _ (List.nil_sublist _)))))))) (laidWcl_data h)) (by kernel_rfl) (by kernel_rfl)
theorem laidWcl_ErrTwice {W : World} (h : laidMetH Tryz.prog laidWcl W) : ∃ p, GErr 9 p W := gerr_of (n := "semblance/api.ErrTwice") (laidMet_subl (.cons _ (.cons _ (.cons _ (.cons _ (.cons _ (.cons _ (.cons _ (.cons_cons _ (List.nil_sublist _))))))))) (laidWcl_data h)) (by kernel_rfl) (by kernel_rfl)
theorem laidWcl_ErrUnknown {W : World} (h : laidMetH Tryz.prog laidWcl W) : ∃ p, GErr 10 p W := gerr_of (n := "semblance/api.ErrUnknown") (laidMet_subl (.cons _ (.cons _ (.cons _ (.cons _ (.cons _ (.cons _ (.cons _ (.cons _ (.cons_cons _ (List.nil_sublist _)))))))))) (laidWcl_data h)) (by kernel_rfl) (by kernel_rfl)
theorem laidWcl_ErrSilent {W : World} (h : laidMetH Tryz.prog laidWcl W) : ∃ p, GErr 11 p W := gerr_of (n := "semblance/api.ErrSilent") (laidMet_subl (.cons _ (.cons _ (.cons _ (.cons _ (.cons _ (.cons _ (.cons _ (.cons _ (.cons _ (.cons_cons _ (List.nil_sublist _))))))))))) (laidWcl_data h)) (by kernel_rfl) (by kernel_rfl)
theorem laidWcl_ErrUnguarded {W : World} (h : laidMetH Tryz.prog laidWcl W) : ∃ p, GErr 12 p W := gerr_of (n := "semblance/api.ErrUnguarded") (laidMet_subl (.cons _ (.cons _ (.cons _ (.cons _ (.cons _ (.cons _ (.cons _ (.cons _ (.cons _ (.cons _ (.cons_cons _ (List.nil_sublist _)))))))))))) (laidWcl_data h)) (by kernel_rfl) (by kernel_rfl)
theorem laidWcl_ErrSteps {W : World} (h : laidMetH Tryz.prog laidWcl W) : ∃ p, GErr 14 p W := gerr_of (n := "semblance/api.ErrSteps") (laidMet_subl (.cons _ (.cons _ (.cons _ (.cons _ (.cons _ (.cons _ (.cons _ (.cons _ (.cons _ (.cons _ (.cons _ (.cons_cons _ (List.nil_sublist _))))))))))))) (laidWcl_data h)) (by kernel_rfl) (by kernel_rfl)
theorem laidWcl_ErrStates {W : World} (h : laidMetH Tryz.prog laidWcl W) : ∃ p, GErr 15 p W := gerr_of (n := "semblance/api.ErrStates") (laidMet_subl (.cons _ (.cons _ (.cons _ (.cons _ (.cons _ (.cons _ (.cons _ (.cons _ (.cons _ (.cons _ (.cons _ (.cons _ (.cons_cons _ (List.nil_sublist _)))))))))))))) (laidWcl_data h)) (by kernel_rfl) (by kernel_rfl)
theorem laidWcl_ErrEdges {W : World} (h : laidMetH Tryz.prog laidWcl W) : ∃ p, GErr 0 p W := gerr_of (n := "semblance/api.ErrEdges") (laidMet_subl (.cons _ (.cons _ (.cons _ (.cons _ (.cons _ (.cons _ (.cons _ (.cons _ (.cons _ (.cons _ (.cons _ (.cons _ (.cons _ (.cons_cons _ (List.nil_sublist _))))))))))))))) (laidWcl_data h)) (by kernel_rfl) (by kernel_rfl)
theorem laidWcl_ErrSystem {W : World} (h : laidMetH Tryz.prog laidWcl W) : ∃ p, GErr 1 p W := gerr_of (n := "semblance/api.ErrSystem") (laidMet_subl (.cons _ (.cons _ (.cons _ (.cons _ (.cons _ (.cons _ (.cons _ (.cons _ (.cons _ (.cons _ (.cons _ (.cons _ (.cons _ (.cons _ (.cons_cons _ (List.nil_sublist _)))))))))))))))) (laidWcl_data h)) (by kernel_rfl) (by kernel_rfl)
theorem laidWcl_ErrClasses {W : World} (h : laidMetH Tryz.prog laidWcl W) : ∃ p, GErr 16 p W := gerr_of (n := "semblance/api.ErrClasses") (laidMet_subl (.cons _ (.cons _ (.cons _ (.cons _ (.cons _ (.cons _ (.cons _ (.cons _ (.cons _ (.cons _ (.cons _ (.cons _ (.cons _ (.cons _ (.cons _ (.cons_cons _ (List.nil_sublist _))))))))))))))))) (laidWcl_data h)) (by kernel_rfl) (by kernel_rfl)
theorem laidWcl_ErrFormula {W : World} (h : laidMetH Tryz.prog laidWcl W) : ∃ p, GErr 17 p W := gerr_of (n := "semblance/api.ErrFormula") (laidMet_subl (.cons _ (.cons _ (.cons _ (.cons _ (.cons _ (.cons _ (.cons _ (.cons _ (.cons _ (.cons _ (.cons _ (.cons _ (.cons _ (.cons _ (.cons _ (.cons _ (.cons_cons _ (List.nil_sublist _)))))))))))))))))) (laidWcl_data h)) (by kernel_rfl) (by kernel_rfl)
theorem laidWcl_ErrLimit {W : World} (h : laidMetH Tryz.prog laidWcl W) : ∃ p, GErr 18 p W := gerr_of (n := "semblance/api.ErrLimit") (laidMet_subl (.cons _ (.cons _ (.cons _ (.cons _ (.cons _ (.cons _ (.cons _ (.cons _ (.cons _ (.cons _ (.cons _ (.cons _ (.cons _ (.cons _ (.cons _ (.cons _ (.cons _ (.cons_cons _ (List.nil_sublist _))))))))))))))))))) (laidWcl_data h)) (by kernel_rfl) (by kernel_rfl)
theorem laidWcl_ErrNone {W : World} (h : laidMetH Tryz.prog laidWcl W) : ∃ p, GErr 19 p W := gerr_of (n := "semblance/api.ErrNone") (laidMet_subl (.cons _ (.cons _ (.cons _ (.cons _ (.cons _ (.cons _ (.cons _ (.cons _ (.cons _ (.cons _ (.cons _ (.cons _ (.cons _ (.cons _ (.cons _ (.cons _ (.cons _ (.cons _ (.cons_cons _ (List.nil_sublist _)))))))))))))))))))) (laidWcl_data h)) (by kernel_rfl) (by kernel_rfl)
theorem laidWcl_ErrScript {W : World} (h : laidMetH Tryz.prog laidWcl W) : ∃ p, GErr 20 p W := gerr_of (n := "semblance/api.ErrScript") (laidMet_subl (.cons _ (.cons _ (.cons _ (.cons _ (.cons _ (.cons _ (.cons _ (.cons _ (.cons _ (.cons _ (.cons _ (.cons _ (.cons _ (.cons _ (.cons _ (.cons _ (.cons _ (.cons _ (.cons _ (.cons_cons _ (List.nil_sublist _))))))))))))))))))))) (laidWcl_data h)) (by kernel_rfl) (by kernel_rfl)
theorem laidWcl_errGreat {W : World} (h : laidMetH Tryz.prog laidWcl W) : ∃ p, GErr 3 p W := gerr_of (n := "semblance/weak.errGreat") (laidMet_subl (.cons _ (.cons _ (.cons _ (.cons _ (.cons _ (.cons _ (.cons _ (.cons _ (.cons _ (.cons _ (.cons _ (.cons _ (.cons _ (.cons _ (.cons _ (.cons _ (.cons _ (.cons _ (.cons _ (.cons _ (.cons_cons _ (List.nil_sublist _)))))))))))))))))))))) (laidWcl_data h)) (by kernel_rfl) (by kernel_rfl)
theorem laidWcl_tab64 {W : World} (h : laidMetH Tryz.prog laidWcl W) : Tab W := by
  have h0 : laidMet Tryz.prog [("math/bits.deBruijn64tab", Rows.laid_math_bits_deBruijn64tab)] W := laidMet_subl (.cons_cons _ (List.nil_sublist _)) (laidWcl_data h)
  have h1 : TabIs Tryz.prog W "math/bits.deBruijn64tab" .u8 (Lib.deBruijn64tab.map Int.ofNat) :=
    tabIs_of_head (g := 13) (t := 165) (e := 5) (n := 64) (by kernel_rfl) (by kernel_rfl) Tryz.underlying165 Tryz.underlying5 (by kernel_rfl) (by kernel_rfl) h0
  intro j hj
  have h2 := h1.cell (g := 13) (by kernel_rfl) j (by simpa using hj)
  rw [show (Lib.deBruijn64tab.map Int.ofNat).getD j 0 = ((Lib.deBruijn64tab.getD j 0 : Nat) : Int) by rw [List.getD_eq_getElem?_getD, List.getD_eq_getElem?_getD, List.getElem?_map]; cases Lib.deBruijn64tab[j]? <;> rfl] at h2
  exact h2
theorem laidWcl_wk {W : World} (h : laidMetH Tryz.prog laidWcl W) : ∃ p, WkErr p W := by
  obtain ⟨p, hG⟩ := laidWcl_ErrSystem h
  have hm : laidMet Tryz.prog [("semblance/api.ErrSystem", Rows.laid_semblance_api_ErrSystem), ("semblance/weak.errGreat", Rows.laid_semblance_weak_errGreat)] W := laidMet_subl (.cons _ (.cons _ (.cons _ (.cons _ (.cons _ (.cons _ (.cons _ (.cons _ (.cons _ (.cons _ (.cons _ (.cons _ (.cons _ (.cons _ (.cons_cons _ (.cons _ (.cons _ (.cons _ (.cons _ (.cons _ (.cons_cons _ (List.nil_sublist _)))))))))))))))))))))) (laidWcl_data h)
  obtain ⟨a0, a1, s0, s1, c0, c1, t0, t1, hv0, hv1, _, _, _, _, _, _, hne, hb0, hb1⟩ := laid_sentinels2 (g0 := 1) (g1 := 3) hm (by kernel_rfl) (by kernel_rfl) (by kernel_rfl) (by kernel_rfl) Tryz.underlying28 row_es Tryz.underlying285 Tryz.underlying303 rfl rfl Tryz.underlying9 (by kernel_rfl) (by kernel_rfl)
  have hcell0 := World.var?_cell (g := 1) (by kernel_rfl) hv0 0
  have hcell0 : W.cell? ⟨1, 0, none⟩ = some (.iface 285 (.pointer (some a0))) := by simpa using hcell0
  have hcell1 := World.var?_cell (g := 3) (by kernel_rfl) hv1 0
  have hcell1 : W.cell? ⟨3, 0, none⟩ = some (.iface 285 (.pointer (some a1))) := by simpa using hcell1
  have hc := hG.cell
  rw [hc] at hcell0
  simp only [Option.some.injEq, Value.iface.injEq, Value.pointer.injEq, true_and] at hcell0
  subst hcell0
  exact ⟨p, ⟨hG, ⟨c0, t0, hb0⟩, ⟨a1, c1, t1, ⟨World.block_lt_of_cell? _ _ hcell1, hcell1⟩, Ne.symm hne, hb1⟩⟩⟩
theorem laidWcl_errs2 {W : World} (h : laidMetH Tryz.prog laidWcl W) : ∃ p, ErrsK 2 p W := by
  obtain ⟨p, hG⟩ := laidWcl_ErrLong h
  have hd := laidWcl_data h
  have s1 := sent_first hG (sent_pair (g0 := 5) (g1 := 4) (n0 := "semblance/api.ErrArg") (n1 := "semblance/api.ErrLong") (laidMet_subl (l' := [("semblance/api.ErrArg", Rows.laid_semblance_api_ErrArg), ("semblance/api.ErrLong", Rows.laid_semblance_api_ErrLong)]) (.cons _ (.cons_cons _ (.cons_cons _ (List.nil_sublist _)))) hd) (by kernel_rfl) (by kernel_rfl) (by kernel_rfl) (by kernel_rfl))
  refine ⟨p, hG, s1.2, fun j h1 h2 => ?_⟩
  have hj : j = 1 := by omega
  rcases hj with rfl
  · exact s1.1
theorem laidWcl_errs3 {W : World} (h : laidMetH Tryz.prog laidWcl W) : ∃ p, ErrsK 3 p W := by
  obtain ⟨p, hG⟩ := laidWcl_ErrIndex h
  have hd := laidWcl_data h
  have s1 := sent_first hG (sent_pair (g0 := 5) (g1 := 2) (n0 := "semblance/api.ErrArg") (n1 := "semblance/api.ErrIndex") (laidMet_subl (l' := [("semblance/api.ErrArg", Rows.laid_semblance_api_ErrArg), ("semblance/api.ErrIndex", Rows.laid_semblance_api_ErrIndex)]) (.cons _ (.cons_cons _ (.cons _ (.cons_cons _ (List.nil_sublist _))))) hd) (by kernel_rfl) (by kernel_rfl) (by kernel_rfl) (by kernel_rfl))
  have s2 := sent_first hG (sent_pair (g0 := 4) (g1 := 2) (n0 := "semblance/api.ErrLong") (n1 := "semblance/api.ErrIndex") (laidMet_subl (l' := [("semblance/api.ErrLong", Rows.laid_semblance_api_ErrLong), ("semblance/api.ErrIndex", Rows.laid_semblance_api_ErrIndex)]) (.cons _ (.cons _ (.cons_cons _ (.cons_cons _ (List.nil_sublist _))))) hd) (by kernel_rfl) (by kernel_rfl) (by kernel_rfl) (by kernel_rfl))
  refine ⟨p, hG, s1.2, fun j h1 h2 => ?_⟩
  have hj : j = 1 ∨ j = 2 := by omega
  rcases hj with rfl | rfl
  · exact s1.1
  · exact s2.1
theorem laidWcl_errs14 {W : World} (h : laidMetH Tryz.prog laidWcl W) : ∃ p, ErrsK 14 p W := by
  obtain ⟨p, hG⟩ := laidWcl_ErrSystem h
  have hd := laidWcl_data h
  have s1 := sent_first hG (sent_pair (g0 := 5) (g1 := 1) (n0 := "semblance/api.ErrArg") (n1 := "semblance/api.ErrSystem") (laidMet_subl (l' := [("semblance/api.ErrArg", Rows.laid_semblance_api_ErrArg), ("semblance/api.ErrSystem", Rows.laid_semblance_api_ErrSystem)]) (.cons _ (.cons_cons _ (.cons _ (.cons _ (.cons _ (.cons _ (.cons _ (.cons _ (.cons _ (.cons _ (.cons _ (.cons _ (.cons _ (.cons _ (.cons_cons _ (List.nil_sublist _)))))))))))))))) hd) (by kernel_rfl) (by kernel_rfl) (by kernel_rfl) (by kernel_rfl))
  have s2 := sent_first hG (sent_pair (g0 := 4) (g1 := 1) (n0 := "semblance/api.ErrLong") (n1 := "semblance/api.ErrSystem") (laidMet_subl (l' := [("semblance/api.ErrLong", Rows.laid_semblance_api_ErrLong), ("semblance/api.ErrSystem", Rows.laid_semblance_api_ErrSystem)]) (.cons _ (.cons _ (.cons_cons _ (.cons _ (.cons _ (.cons _ (.cons _ (.cons _ (.cons _ (.cons _ (.cons _ (.cons _ (.cons _ (.cons _ (.cons_cons _ (List.nil_sublist _)))))))))))))))) hd) (by kernel_rfl) (by kernel_rfl) (by kernel_rfl) (by kernel_rfl))
  have s3 := sent_first hG (sent_pair (g0 := 2) (g1 := 1) (n0 := "semblance/api.ErrIndex") (n1 := "semblance/api.ErrSystem") (laidMet_subl (l' := [("semblance/api.ErrIndex", Rows.laid_semblance_api_ErrIndex), ("semblance/api.ErrSystem", Rows.laid_semblance_api_ErrSystem)]) (.cons _ (.cons _ (.cons _ (.cons_cons _ (.cons _ (.cons _ (.cons _ (.cons _ (.cons _ (.cons _ (.cons _ (.cons _ (.cons _ (.cons _ (.cons_cons _ (List.nil_sublist _)))))))))))))))) hd) (by kernel_rfl) (by kernel_rfl) (by kernel_rfl) (by kernel_rfl))
  have s4 := sent_first hG (sent_pair (g0 := 6) (g1 := 1) (n0 := "semblance/api.ErrWord") (n1 := "semblance/api.ErrSystem") (laidMet_subl (l' := [("semblance/api.ErrWord", Rows.laid_semblance_api_ErrWord), ("semblance/api.ErrSystem", Rows.laid_semblance_api_ErrSystem)]) (.cons _ (.cons _ (.cons _ (.cons _ (.cons_cons _ (.cons _ (.cons _ (.cons _ (.cons _ (.cons _ (.cons _ (.cons _ (.cons _ (.cons _ (.cons_cons _ (List.nil_sublist _)))))))))))))))) hd) (by kernel_rfl) (by kernel_rfl) (by kernel_rfl) (by kernel_rfl))
  have s5 := sent_first hG (sent_pair (g0 := 7) (g1 := 1) (n0 := "semblance/api.ErrSyntax") (n1 := "semblance/api.ErrSystem") (laidMet_subl (l' := [("semblance/api.ErrSyntax", Rows.laid_semblance_api_ErrSyntax), ("semblance/api.ErrSystem", Rows.laid_semblance_api_ErrSystem)]) (.cons _ (.cons _ (.cons _ (.cons _ (.cons _ (.cons_cons _ (.cons _ (.cons _ (.cons _ (.cons _ (.cons _ (.cons _ (.cons _ (.cons _ (.cons_cons _ (List.nil_sublist _)))))))))))))))) hd) (by kernel_rfl) (by kernel_rfl) (by kernel_rfl) (by kernel_rfl))
  have s6 := sent_first hG (sent_pair (g0 := 8) (g1 := 1) (n0 := "semblance/api.ErrDeep") (n1 := "semblance/api.ErrSystem") (laidMet_subl (l' := [("semblance/api.ErrDeep", Rows.laid_semblance_api_ErrDeep), ("semblance/api.ErrSystem", Rows.laid_semblance_api_ErrSystem)]) (.cons _ (.cons _ (.cons _ (.cons _ (.cons _ (.cons _ (.cons_cons _ (.cons _ (.cons _ (.cons _ (.cons _ (.cons _ (.cons _ (.cons _ (.cons_cons _ (List.nil_sublist _)))))))))))))))) hd) (by kernel_rfl) (by kernel_rfl) (by kernel_rfl) (by kernel_rfl))
  have s7 := sent_first hG (sent_pair (g0 := 9) (g1 := 1) (n0 := "semblance/api.ErrTwice") (n1 := "semblance/api.ErrSystem") (laidMet_subl (l' := [("semblance/api.ErrTwice", Rows.laid_semblance_api_ErrTwice), ("semblance/api.ErrSystem", Rows.laid_semblance_api_ErrSystem)]) (.cons _ (.cons _ (.cons _ (.cons _ (.cons _ (.cons _ (.cons _ (.cons_cons _ (.cons _ (.cons _ (.cons _ (.cons _ (.cons _ (.cons _ (.cons_cons _ (List.nil_sublist _)))))))))))))))) hd) (by kernel_rfl) (by kernel_rfl) (by kernel_rfl) (by kernel_rfl))
  have s8 := sent_first hG (sent_pair (g0 := 10) (g1 := 1) (n0 := "semblance/api.ErrUnknown") (n1 := "semblance/api.ErrSystem") (laidMet_subl (l' := [("semblance/api.ErrUnknown", Rows.laid_semblance_api_ErrUnknown), ("semblance/api.ErrSystem", Rows.laid_semblance_api_ErrSystem)]) (.cons _ (.cons _ (.cons _ (.cons _ (.cons _ (.cons _ (.cons _ (.cons _ (.cons_cons _ (.cons _ (.cons _ (.cons _ (.cons _ (.cons _ (.cons_cons _ (List.nil_sublist _)))))))))))))))) hd) (by kernel_rfl) (by kernel_rfl) (by kernel_rfl) (by kernel_rfl))
  have s9 := sent_first hG (sent_pair (g0 := 11) (g1 := 1) (n0 := "semblance/api.ErrSilent") (n1 := "semblance/api.ErrSystem") (laidMet_subl (l' := [("semblance/api.ErrSilent", Rows.laid_semblance_api_ErrSilent), ("semblance/api.ErrSystem", Rows.laid_semblance_api_ErrSystem)]) (.cons _ (.cons _ (.cons _ (.cons _ (.cons _ (.cons _ (.cons _ (.cons _ (.cons _ (.cons_cons _ (.cons _ (.cons _ (.cons _ (.cons _ (.cons_cons _ (List.nil_sublist _)))))))))))))))) hd) (by kernel_rfl) (by kernel_rfl) (by kernel_rfl) (by kernel_rfl))
  have s10 := sent_first hG (sent_pair (g0 := 12) (g1 := 1) (n0 := "semblance/api.ErrUnguarded") (n1 := "semblance/api.ErrSystem") (laidMet_subl (l' := [("semblance/api.ErrUnguarded", Rows.laid_semblance_api_ErrUnguarded), ("semblance/api.ErrSystem", Rows.laid_semblance_api_ErrSystem)]) (.cons _ (.cons _ (.cons _ (.cons _ (.cons _ (.cons _ (.cons _ (.cons _ (.cons _ (.cons _ (.cons_cons _ (.cons _ (.cons _ (.cons _ (.cons_cons _ (List.nil_sublist _)))))))))))))))) hd) (by kernel_rfl) (by kernel_rfl) (by kernel_rfl) (by kernel_rfl))
  have s11 := sent_first hG (sent_pair (g0 := 14) (g1 := 1) (n0 := "semblance/api.ErrSteps") (n1 := "semblance/api.ErrSystem") (laidMet_subl (l' := [("semblance/api.ErrSteps", Rows.laid_semblance_api_ErrSteps), ("semblance/api.ErrSystem", Rows.laid_semblance_api_ErrSystem)]) (.cons _ (.cons _ (.cons _ (.cons _ (.cons _ (.cons _ (.cons _ (.cons _ (.cons _ (.cons _ (.cons _ (.cons_cons _ (.cons _ (.cons _ (.cons_cons _ (List.nil_sublist _)))))))))))))))) hd) (by kernel_rfl) (by kernel_rfl) (by kernel_rfl) (by kernel_rfl))
  have s12 := sent_first hG (sent_pair (g0 := 15) (g1 := 1) (n0 := "semblance/api.ErrStates") (n1 := "semblance/api.ErrSystem") (laidMet_subl (l' := [("semblance/api.ErrStates", Rows.laid_semblance_api_ErrStates), ("semblance/api.ErrSystem", Rows.laid_semblance_api_ErrSystem)]) (.cons _ (.cons _ (.cons _ (.cons _ (.cons _ (.cons _ (.cons _ (.cons _ (.cons _ (.cons _ (.cons _ (.cons _ (.cons_cons _ (.cons _ (.cons_cons _ (List.nil_sublist _)))))))))))))))) hd) (by kernel_rfl) (by kernel_rfl) (by kernel_rfl) (by kernel_rfl))
  have s13 := sent_first hG (sent_pair (g0 := 0) (g1 := 1) (n0 := "semblance/api.ErrEdges") (n1 := "semblance/api.ErrSystem") (laidMet_subl (l' := [("semblance/api.ErrEdges", Rows.laid_semblance_api_ErrEdges), ("semblance/api.ErrSystem", Rows.laid_semblance_api_ErrSystem)]) (.cons _ (.cons _ (.cons _ (.cons _ (.cons _ (.cons _ (.cons _ (.cons _ (.cons _ (.cons _ (.cons _ (.cons _ (.cons _ (.cons_cons _ (.cons_cons _ (List.nil_sublist _)))))))))))))))) hd) (by kernel_rfl) (by kernel_rfl) (by kernel_rfl) (by kernel_rfl))
  refine ⟨p, hG, s1.2, fun j h1 h2 => ?_⟩
  have hj : j = 1 ∨ j = 2 ∨ j = 3 ∨ j = 4 ∨ j = 5 ∨ j = 6 ∨ j = 7 ∨ j = 8 ∨ j = 9 ∨ j = 10 ∨ j = 11 ∨ j = 12 ∨ j = 13 := by omega
  rcases hj with rfl | rfl | rfl | rfl | rfl | rfl | rfl | rfl | rfl | rfl | rfl | rfl | rfl
  · exact s1.1
  · exact s2.1
  · exact s3.1
  · exact s4.1
  · exact s5.1
  · exact s6.1
  · exact s7.1
  · exact s8.1
  · exact s9.1
  · exact s10.1
  · exact s11.1
  · exact s12.1
  · exact s13.1
end Go.Proofs.YtdhloijdefnkpaaGreatDoor

namespace Go.Proofs.YtdhloijdefnkpaaGreatDoor
open Go.RowKit Pl

theorem bad_any (l : ByteArray) (hl : l.size ≤ 1000) (k : Int) (w : World) : Calls Tryz.prog 15 #[.string l, .int .i64 k] w fun e w' => e = .returned (.agg #[.int .i64 k, .int .i64 0, .int .i64 0, .string (l ++ ⟨#[32]⟩)]) ∧ Below w.heap.size w w' := by
  have hz2 : ¬ 9223372036854775807 < l.size + 1 := by omega
  go_enter Tryz.func15, Tryz.ntmps15
  go_wp2_with fail
  refine bodyPost_ret (v := .agg #[.int .i64 k, .int .i64 0, .int .i64 0, .string (l ++ ⟨#[32]⟩)]) (by simp [results, Tryz.results15, go_sem]) rfl ⟨rfl, (Below.refl _ _).alloc (Nat.le_refl _) _⟩
end Go.Proofs.YtdhloijdefnkpaaGreatDoor

namespace Go.Proofs.YtdhloijdefnkpaaGreatDoor
open Go.RowKit Pl

theorem eq_upto' {α : Type} {xs ys : List α} (hl : xs.length = ys.length) (h : ∀ j, j < xs.length → xs[j]? = ys[j]?) : xs = ys := by
  apply List.ext_getElem?
  intro j
  by_cases hj : j < xs.length
  · exact h j hj
  · rw [List.getElem?_eq_none (by omega), List.getElem?_eq_none (by omega)]

set_option maxRecDepth 100000 in
theorem sameEdges_any {a1 a2 : Option Addr} {b1 o1 c1 b2 o2 c2 : Nat} {xs ys : List E} {w : World} (h1 : SlAt encE 3 w a1 b1 o1 xs) (h2 : SlAt encE 3 w a2 b2 o2 ys) (hx : xs.length ≤ 1000000) (hy : ys.length ≤ 1000000) :
    Calls Tryz.prog 52 #[.slice a1 xs.length c1, .slice a2 ys.length c2] w fun e w' => e = .returned (.bool (decide (xs = ys))) ∧ ∃ n, w' = w.drewN n := by
  by_cases hl : xs.length = ys.length
  · have hlB : ((xs.length : Int) != (ys.length : Int)) = false := by simp [hl]
    have HL := Lib.hid hl; clear hl
    go_enter Tryz.func52, Tryz.ntmps52
    go_wp2
    go_loopw [5] (fun i wr => ∃ k m : Nat, k ≤ xs.length ∧ i = .int .i64 k ∧ (∀ j, j < k → xs[j]? = ys[j]?) ∧ wr = w.drewN m)
      (fun i _ => xs.length - (intOf i).toNat)
    case atStart => exact ⟨0, 0, Nat.zero_le _, rfl, by intro j hj; omega, rfl⟩
    case round =>
      obtain ⟨k, m, hk, rfl, heq, rfl⟩ := hrel
      have HE := Lib.hid heq; clear heq
      by_cases hlt : k < xs.length
      · have hlt2 : k < ys.length := by rw [← HL.out]; exact hlt
        obtain ⟨x, hxk⟩ := getElem?_of_lt hlt
        obtain ⟨y, hyk⟩ := getElem?_of_lt hlt2
        obtain rfl := h1.ad (by omega)
        obtain rfl := h2.ad (by omega)
        have c0 := h1.e0 hxk; have c1' := h1.e1 hxk; have c2' := h1.e2 hxk
        have d0 := h2.e0 hyk; have d1 := h2.e1 hyk; have d2 := h2.e2 hyk
        have hq := fun w => eqlE x y w
        have hgd := guardE
        have hi1 : (k : Int) < (xs.length : Int) := by omega
        have hi2 : (k : Int) < (ys.length : Int) := by omega
        have HX := Lib.hid hxk; have HY := Lib.hid hyk
        clear h1 h2 hxk hyk
        by_cases hxy : x = y
        · have hb : decide (x = y) = true := by simp [hxy]
          have HXY := Lib.hid hxy; clear hxy
          go_wp2_with fail
          go_quiet (fail)
          go_wp2
          go_roundw
          case rel => exact ⟨k + 1, _, by omega, by go_num, by
            intro j hj
            by_cases hjk : j = k
            · subst hjk; rw [HX.out, HY.out, HXY.out]
            · exact HE.out j (by omega), rfl⟩
          case measure => simp [intOf]; omega
        · have hb : decide (x = y) = false := by simp [hxy]
          have HXY := Lib.hid hxy; clear hxy
          go_wp2_with fail
          go_quiet (fail)
          go_wp2
          go_ret
          refine ⟨?_, _, World.drewN_drewN _ _ _⟩
          have : xs ≠ ys := fun e => HXY.out (by have h1 := HX.out; have h2 := HY.out; rw [e, h2] at h1; simpa using h1.symm)
          simp [this]
      · clear h1 h2
        have hkk : k = xs.length := by omega
        go_wp2
        go_ret
        refine ⟨?_, _, rfl⟩
        have : xs = ys := eq_upto' HL.out (by rw [← hkk]; exact HE.out)
        simp [this]
  · have hlB : ((xs.length : Int) != (ys.length : Int)) = true := by simp; omega
    go_enter Tryz.func52, Tryz.ntmps52
    go_wp2
    go_ret
    have : xs ≠ ys := fun e => hl (by rw [e])
    exact ⟨by simp [this], 0, rfl⟩


set_option maxRecDepth 100000 in
theorem sameSystem_yes (st lb s0 : Int) {a1 a2 : Option Addr} {b1 o1 c1 b2 o2 c2 : Nat} {xs : List E} {w : World} (h1 : SlAt encE 3 w a1 b1 o1 xs) (h2 : SlAt encE 3 w a2 b2 o2 xs) (hx : xs.length ≤ 1000000) :
    Calls Tryz.prog 24 #[.agg #[.int .i64 st, .int .i64 lb, .int .i64 s0, .slice a1 xs.length c1], .agg #[.int .i64 st, .int .i64 lb, .int .i64 s0, .slice a2 xs.length c2]] w fun e w' =>
      e = .returned (.bool true) ∧ Below w.heap.size w w' := by
  have e1 : (st == st) = true := by simp
  have e2 : (lb == lb) = true := by simp
  have e3 : (s0 == s0) = true := by simp
  have H1 := Lib.hid h1; have H2 := Lib.hid h2
  clear h1 h2
  go_enter Tryz.func24, Tryz.ntmps24
  go_wp2_with fail
  have hB := ((Below.refl w.heap.size w).alloc (Nat.le_refl _) (Obj.cells #[.int .i64 st, .int .i64 lb, .int .i64 s0, .slice a1 xs.length c1] 24)).alloc (by simp) (Obj.cells #[.int .i64 st, .int .i64 lb, .int .i64 s0, .slice a2 xs.length c2] 24)
  have HB := Lib.hid hB
  clear hB
  refine (sameEdges_any (H1.out.below HB.out (Nat.le_refl _)) (H2.out.below HB.out (Nat.le_refl _)) hx hx).mono ?_
  rintro e w1 ⟨rfl, m, rfl⟩
  simp only [decide_true]
  go_wp2
  go_ret
  exact ⟨rfl, bdrew HB.out⟩
end Go.Proofs.YtdhloijdefnkpaaGreatDoor

namespace Go.Proofs.YtdhloijdefnkpaaGreatDoor
open Go.RowKit Pl

set_option maxRecDepth 100000 in
theorem less_any (x y : E) (w : World) : Calls Tryz.prog 143 #[.agg #[.int .i64 x.1, .int .i64 x.2.1, .int .i64 x.2.2], .agg #[.int .i64 y.1, .int .i64 y.2.1, .int .i64 y.2.2]] w fun e w' =>
    e = .returned (.bool (ltE x y)) ∧ Below w.heap.size w w' := by
  by_cases h1 : x.1 = y.1
  · have b1 : (x.1 != y.1) = false := by simp [h1]
    by_cases h2 : x.2.1 = y.2.1
    · have b2 : (x.2.1 != y.2.1) = false := by simp [h2]
      have hr : ltE x y = decide (x.2.2 < y.2.2) := by simp [ltE, h1, h2]
      rw [hr]
      clear h1 h2 hr
      go_enter Tryz.func143, Tryz.ntmps143
      go_wp2
      go_ret
      exact ⟨rfl, ((Below.refl _ _).alloc (Nat.le_refl _) _).alloc (by simp) _⟩
    · have b2 : (x.2.1 != y.2.1) = true := by simp [h2]
      have hr : ltE x y = decide (x.2.1 < y.2.1) := by simp [ltE, h1, h2]
      rw [hr]
      clear h1 h2 hr
      go_enter Tryz.func143, Tryz.ntmps143
      go_wp2
      go_ret
      exact ⟨rfl, ((Below.refl _ _).alloc (Nat.le_refl _) _).alloc (by simp) _⟩
  · have b1 : (x.1 != y.1) = true := by simp [h1]
    have hr : ltE x y = decide (x.1 < y.1) := by simp [ltE, h1]
    rw [hr]
    clear h1 hr
    go_enter Tryz.func143, Tryz.ntmps143
    go_wp2
    go_ret
    exact ⟨rfl, ((Below.refl _ _).alloc (Nat.le_refl _) _).alloc (by simp) _⟩

end Go.Proofs.YtdhloijdefnkpaaGreatDoor
