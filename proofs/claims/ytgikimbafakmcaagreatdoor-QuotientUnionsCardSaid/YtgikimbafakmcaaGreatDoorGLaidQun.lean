/-
  Lemmas.
-/
import Derived.Test.YtgikimbafakmcaaGreatDoorGAs
import Derived.Stop.LaidTwo
import Derived.Test.YtgikimbafakmcaaGreatDoorGTold
import Derived.Lib.LaidTab
import Derived.Lib.ItoaNum
import Derived.Test.YtgikimbafakmcaaGreatDoorGPl6
import Derived.Test.YtgikimbafakmcaaGreatDoorGPl1
import Derived.Maps.OwnSet
import Derived.Deep.DeepMust
import Derived.Outline
import Derived.Deep.QuietTactic
import Derived.BigQuiet
import Derived.Deep.RegionHeldLaw
set_option maxRecDepth 100000
namespace Go.Proofs.YtgikimbafakmcaaGreatDoor
open Go.ChangeShapes Go.WideShapes Go.ChangeAt Go.RowKit Go.Lib
def laidQun : List (String × DataW Unit) := [("errors.errorType", Rows.laid_errors_errorType), ("semblance/api.ErrArg", Rows.laid_semblance_api_ErrArg), ("semblance/api.ErrLong", Rows.laid_semblance_api_ErrLong), ("semblance/api.ErrIndex", Rows.laid_semblance_api_ErrIndex), ("semblance/api.ErrWord", Rows.laid_semblance_api_ErrWord), ("semblance/api.ErrSyntax", Rows.laid_semblance_api_ErrSyntax), ("semblance/api.ErrDeep", Rows.laid_semblance_api_ErrDeep), ("semblance/api.ErrTwice", Rows.laid_semblance_api_ErrTwice), ("semblance/api.ErrUnknown", Rows.laid_semblance_api_ErrUnknown), ("semblance/api.ErrSilent", Rows.laid_semblance_api_ErrSilent), ("semblance/api.ErrUnguarded", Rows.laid_semblance_api_ErrUnguarded), ("semblance/api.ErrSteps", Rows.laid_semblance_api_ErrSteps), ("semblance/api.ErrStates", Rows.laid_semblance_api_ErrStates), ("semblance/api.ErrEdges", Rows.laid_semblance_api_ErrEdges), ("semblance/api.ErrSystem", Rows.laid_semblance_api_ErrSystem), ("semblance/api.ErrClasses", Rows.laid_semblance_api_ErrClasses), ("semblance/api.ErrFormula", Rows.laid_semblance_api_ErrFormula), ("semblance/api.ErrLimit", Rows.laid_semblance_api_ErrLimit), ("semblance/api.ErrNone", Rows.laid_semblance_api_ErrNone), ("semblance/api.ErrScript", Rows.laid_semblance_api_ErrScript)]
noncomputable def laidWorldQun (os : Os) : World :=
  let N := (World.settled Tryz.prog os).heap.size
  let w0 := World.holding Tryz.prog os ⟨#[.cells #[.string ⟨([97, 110, 32, 97, 114, 103, 117, 109, 101, 110, 116, 32, 116, 104, 97, 116, 32, 99, 97, 110, 39, 116, 32, 98, 101] : List UInt8).toArray⟩] 290, .cells #[.string ⟨([116, 111, 111, 32, 108, 111, 110, 103, 44, 32, 111, 114, 32, 116, 111, 111, 32, 109, 97, 110, 121] : List UInt8).toArray⟩] 290, .cells #[.string ⟨([97, 32, 110, 117, 109, 98, 101, 114, 32, 116, 104, 97, 116, 32, 105, 115, 32, 110, 111, 116, 32, 116, 104, 101, 114, 101] : List UInt8).toArray⟩] 290, .cells #[.string ⟨([97, 32, 99, 104, 97, 114, 97, 99, 116, 101, 114, 32, 116, 104, 97, 116, 32, 98, 101, 103, 105, 110, 115, 32, 110, 111, 32, 119, 111, 114, 100] : List UInt8).toArray⟩] 290, .cells #[.string ⟨([97, 32, 119, 111, 114, 100, 32, 116, 104, 97, 116, 32, 99, 97, 110, 39, 116, 32, 115, 116, 97, 110, 100, 32, 116, 104, 101, 114, 101] : List UInt8).toArray⟩] 290, .cells #[.string ⟨([98, 114, 97, 99, 107, 101, 116, 115, 32, 116, 104, 97, 116, 32, 115, 116, 97, 110, 100, 32, 116, 111, 111, 32, 100, 101, 101, 112] : List UInt8).toArray⟩] 290, .cells #[.string ⟨([115, 111, 109, 101, 116, 104, 105, 110, 103, 32, 116, 104, 97, 116, 32, 115, 116, 97, 110, 100, 115, 32, 116, 104, 101, 114, 101, 32, 97, 108, 114, 101, 97, 100, 121] : List UInt8).toArray⟩] 290, .cells #[.string ⟨([97, 32, 110, 97, 109, 101, 32, 116, 104, 97, 116, 32, 105, 115, 32, 110, 111, 116, 32, 116, 104, 101, 114, 101] : List UInt8).toArray⟩] 290, .cells #[.string ⟨([116, 104, 101, 32, 115, 105, 108, 101, 110, 116, 32, 97, 99, 116, 105, 111, 110, 44, 32, 119, 104, 101, 114, 101, 32, 105, 116, 32, 99, 97, 110, 39, 116, 32, 115, 116, 97, 110, 100] : List UInt8).toArray⟩] 290, .cells #[.string ⟨([97, 32, 99, 111, 110, 115, 116, 97, 110, 116, 32, 116, 104, 97, 116, 32, 110, 101, 101, 100, 115, 32, 105, 116, 115, 101, 108, 102, 32, 102, 105, 114, 115, 116] : List UInt8).toArray⟩] 290, .cells #[.string ⟨([97, 32, 116, 101, 114, 109, 32, 119, 105, 116, 104, 32, 116, 111, 111, 32, 109, 97, 110, 121, 32, 115, 116, 101, 112, 115] : List UInt8).toArray⟩] 290, .cells #[.string ⟨([116, 111, 111, 32, 109, 97, 110, 121, 32, 115, 116, 97, 116, 101, 115] : List UInt8).toArray⟩] 290, .cells #[.string ⟨([116, 111, 111, 32, 109, 97, 110, 121, 32, 101, 100, 103, 101, 115] : List UInt8).toArray⟩] 290, .cells #[.string ⟨([97, 32, 115, 121, 115, 116, 101, 109, 32, 116, 104, 97, 116, 32, 105, 115, 32, 110, 111, 110, 101] : List UInt8).toArray⟩] 290, .cells #[.string ⟨([99, 108, 97, 115, 115, 101, 115, 32, 116, 104, 97, 116, 32, 97, 114, 101, 32, 110, 111, 110, 101] : List UInt8).toArray⟩] 290, .cells #[.string ⟨([97, 32, 102, 111, 114, 109, 117, 108, 97, 32, 116, 104, 97, 116, 32, 105, 115, 32, 110, 111, 110, 101] : List UInt8).toArray⟩] 290, .cells #[.string ⟨([97, 32, 102, 111, 114, 109, 117, 108, 97, 32, 116, 104, 97, 116, 32, 119, 111, 117, 108, 100, 32, 98, 101, 32, 116, 111, 111, 32, 103, 114, 101, 97, 116] : List UInt8).toArray⟩] 290, .cells #[.string ⟨([116, 104, 101, 114, 101, 32, 105, 115, 32, 110, 111, 110, 101] : List UInt8).toArray⟩] 290, .cells #[.string ⟨([97, 32, 115, 99, 114, 105, 112, 116, 32, 116, 104, 97, 116, 32, 105, 115, 32, 110, 111, 110, 101] : List UInt8).toArray⟩] 290], #[], []⟩
  let put := fun (h : Array Obj) (g : Nat) (cs : Array Value) => h.modify g fun
      | .cells _ t frozen => .cells cs t frozen
      | o => o
  { w0 with heap := put (put (put (put (put (put (put (put (put (put (put (put (put (put (put (put (put (put (put (put (w0.heap) 11 #[.iface 184 (.agg #[.pointer (some ⟨20, 46, none⟩)])]) 2 #[.iface 270 (.pointer (some ⟨N + 0, 0, none⟩))]) 3 #[.iface 270 (.pointer (some ⟨N + 1, 0, none⟩))]) 1 #[.iface 270 (.pointer (some ⟨N + 2, 0, none⟩))]) 4 #[.iface 270 (.pointer (some ⟨N + 3, 0, none⟩))]) 5 #[.iface 270 (.pointer (some ⟨N + 4, 0, none⟩))]) 6 #[.iface 270 (.pointer (some ⟨N + 5, 0, none⟩))]) 7 #[.iface 270 (.pointer (some ⟨N + 6, 0, none⟩))]) 8 #[.iface 270 (.pointer (some ⟨N + 7, 0, none⟩))]) 9 #[.iface 270 (.pointer (some ⟨N + 8, 0, none⟩))]) 10 #[.iface 270 (.pointer (some ⟨N + 9, 0, none⟩))]) 12 #[.iface 270 (.pointer (some ⟨N + 10, 0, none⟩))]) 13 #[.iface 270 (.pointer (some ⟨N + 11, 0, none⟩))]) 14 #[.iface 270 (.pointer (some ⟨N + 12, 0, none⟩))]) 0 #[.iface 270 (.pointer (some ⟨N + 13, 0, none⟩))]) 15 #[.iface 270 (.pointer (some ⟨N + 14, 0, none⟩))]) 16 #[.iface 270 (.pointer (some ⟨N + 15, 0, none⟩))]) 17 #[.iface 270 (.pointer (some ⟨N + 16, 0, none⟩))]) 18 #[.iface 270 (.pointer (some ⟨N + 17, 0, none⟩))]) 19 #[.iface 270 (.pointer (some ⟨N + 18, 0, none⟩))] }
theorem laidInQun (os : Os) (args : Array Value) : LaidIn Tryz.prog ((laidWorldQun os).forCall (fun _ _ => 0) ⟨#[], args, []⟩).memory [("semblance/api.ErrArg", Rows.laid_semblance_api_ErrArg), ("semblance/api.ErrLong", Rows.laid_semblance_api_ErrLong), ("semblance/api.ErrIndex", Rows.laid_semblance_api_ErrIndex), ("semblance/api.ErrWord", Rows.laid_semblance_api_ErrWord), ("semblance/api.ErrSyntax", Rows.laid_semblance_api_ErrSyntax), ("semblance/api.ErrDeep", Rows.laid_semblance_api_ErrDeep), ("semblance/api.ErrTwice", Rows.laid_semblance_api_ErrTwice), ("semblance/api.ErrUnknown", Rows.laid_semblance_api_ErrUnknown), ("semblance/api.ErrSilent", Rows.laid_semblance_api_ErrSilent), ("semblance/api.ErrUnguarded", Rows.laid_semblance_api_ErrUnguarded), ("semblance/api.ErrSteps", Rows.laid_semblance_api_ErrSteps), ("semblance/api.ErrStates", Rows.laid_semblance_api_ErrStates), ("semblance/api.ErrEdges", Rows.laid_semblance_api_ErrEdges), ("semblance/api.ErrSystem", Rows.laid_semblance_api_ErrSystem), ("semblance/api.ErrClasses", Rows.laid_semblance_api_ErrClasses), ("semblance/api.ErrFormula", Rows.laid_semblance_api_ErrFormula), ("semblance/api.ErrLimit", Rows.laid_semblance_api_ErrLimit), ("semblance/api.ErrNone", Rows.laid_semblance_api_ErrNone), ("semblance/api.ErrScript", Rows.laid_semblance_api_ErrScript)] [2, 3, 1, 4, 5, 6, 7, 8, 9, 10, 12, 13, 14, 0, 15, 16, 17, 18, 19, nBlock + 0, nBlock + 1, nBlock + 2, nBlock + 3, nBlock + 4, nBlock + 5, nBlock + 6, nBlock + 7, nBlock + 8, nBlock + 9, nBlock + 10, nBlock + 11, nBlock + 12, nBlock + 13, nBlock + 14, nBlock + 15, nBlock + 16, nBlock + 17, nBlock + 18] :=
  LaidIn.of_run [2, 3, 1, 4, 5, 6, 7, 8, 9, 10, 12, 13, 14, 0, 15, 16, 17, 18, 19, nBlock + 0, nBlock + 1, nBlock + 2, nBlock + 3, nBlock + 4, nBlock + 5, nBlock + 6, nBlock + 7, nBlock + 8, nBlock + 9, nBlock + 10, nBlock + 11, nBlock + 12, nBlock + 13, nBlock + 14, nBlock + 15, nBlock + 16, nBlock + 17, nBlock + 18] 8 (by kernel_rfl) (by kernel_rfl) (by kernel_rfl) (by kernel_rfl)
theorem laid_metQun (os : Os) (args : Array Value) : laidMetH Tryz.prog laidQun ((laidWorldQun os).forCall (fun _ _ => 0) ⟨#[], args, []⟩).memory :=
  laidMetH_of_parts (laidInQun os args).met (by kernel_rfl)
theorem laidQun_data {W : World} (h : laidMetH Tryz.prog laidQun W) : laidMet Tryz.prog [("semblance/api.ErrArg", Rows.laid_semblance_api_ErrArg), ("semblance/api.ErrLong", Rows.laid_semblance_api_ErrLong), ("semblance/api.ErrIndex", Rows.laid_semblance_api_ErrIndex), ("semblance/api.ErrWord", Rows.laid_semblance_api_ErrWord), ("semblance/api.ErrSyntax", Rows.laid_semblance_api_ErrSyntax), ("semblance/api.ErrDeep", Rows.laid_semblance_api_ErrDeep), ("semblance/api.ErrTwice", Rows.laid_semblance_api_ErrTwice), ("semblance/api.ErrUnknown", Rows.laid_semblance_api_ErrUnknown), ("semblance/api.ErrSilent", Rows.laid_semblance_api_ErrSilent), ("semblance/api.ErrUnguarded", Rows.laid_semblance_api_ErrUnguarded), ("semblance/api.ErrSteps", Rows.laid_semblance_api_ErrSteps), ("semblance/api.ErrStates", Rows.laid_semblance_api_ErrStates), ("semblance/api.ErrEdges", Rows.laid_semblance_api_ErrEdges), ("semblance/api.ErrSystem", Rows.laid_semblance_api_ErrSystem), ("semblance/api.ErrClasses", Rows.laid_semblance_api_ErrClasses), ("semblance/api.ErrFormula", Rows.laid_semblance_api_ErrFormula), ("semblance/api.ErrLimit", Rows.laid_semblance_api_ErrLimit), ("semblance/api.ErrNone", Rows.laid_semblance_api_ErrNone), ("semblance/api.ErrScript", Rows.laid_semblance_api_ErrScript)] W := (show laidMet Tryz.prog [("semblance/api.ErrArg", Rows.laid_semblance_api_ErrArg), ("semblance/api.ErrLong", Rows.laid_semblance_api_ErrLong), ("semblance/api.ErrIndex", Rows.laid_semblance_api_ErrIndex), ("semblance/api.ErrWord", Rows.laid_semblance_api_ErrWord), ("semblance/api.ErrSyntax", Rows.laid_semblance_api_ErrSyntax), ("semblance/api.ErrDeep", Rows.laid_semblance_api_ErrDeep), ("semblance/api.ErrTwice", Rows.laid_semblance_api_ErrTwice), ("semblance/api.ErrUnknown", Rows.laid_semblance_api_ErrUnknown), ("semblance/api.ErrSilent", Rows.laid_semblance_api_ErrSilent), ("semblance/api.ErrUnguarded", Rows.laid_semblance_api_ErrUnguarded), ("semblance/api.ErrSteps", Rows.laid_semblance_api_ErrSteps), ("semblance/api.ErrStates", Rows.laid_semblance_api_ErrStates), ("semblance/api.ErrEdges", Rows.laid_semblance_api_ErrEdges), ("semblance/api.ErrSystem", Rows.laid_semblance_api_ErrSystem), ("semblance/api.ErrClasses", Rows.laid_semblance_api_ErrClasses), ("semblance/api.ErrFormula", Rows.laid_semblance_api_ErrFormula), ("semblance/api.ErrLimit", Rows.laid_semblance_api_ErrLimit), ("semblance/api.ErrNone", Rows.laid_semblance_api_ErrNone), ("semblance/api.ErrScript", Rows.laid_semblance_api_ErrScript)] W /\ handlesMet Tryz.prog [("errors.errorType", Rows.laid_errors_errorType)] W from h).1
theorem laidQun_errType {W : World} (h : laidMetH Tryz.prog laidQun W) : ErrType W := errType_of (show laidMet Tryz.prog [("semblance/api.ErrArg", Rows.laid_semblance_api_ErrArg), ("semblance/api.ErrLong", Rows.laid_semblance_api_ErrLong), ("semblance/api.ErrIndex", Rows.laid_semblance_api_ErrIndex), ("semblance/api.ErrWord", Rows.laid_semblance_api_ErrWord), ("semblance/api.ErrSyntax", Rows.laid_semblance_api_ErrSyntax), ("semblance/api.ErrDeep", Rows.laid_semblance_api_ErrDeep), ("semblance/api.ErrTwice", Rows.laid_semblance_api_ErrTwice), ("semblance/api.ErrUnknown", Rows.laid_semblance_api_ErrUnknown), ("semblance/api.ErrSilent", Rows.laid_semblance_api_ErrSilent), ("semblance/api.ErrUnguarded", Rows.laid_semblance_api_ErrUnguarded), ("semblance/api.ErrSteps", Rows.laid_semblance_api_ErrSteps), ("semblance/api.ErrStates", Rows.laid_semblance_api_ErrStates), ("semblance/api.ErrEdges", Rows.laid_semblance_api_ErrEdges), ("semblance/api.ErrSystem", Rows.laid_semblance_api_ErrSystem), ("semblance/api.ErrClasses", Rows.laid_semblance_api_ErrClasses), ("semblance/api.ErrFormula", Rows.laid_semblance_api_ErrFormula), ("semblance/api.ErrLimit", Rows.laid_semblance_api_ErrLimit), ("semblance/api.ErrNone", Rows.laid_semblance_api_ErrNone), ("semblance/api.ErrScript", Rows.laid_semblance_api_ErrScript)] W /\ handlesMet Tryz.prog [("errors.errorType", Rows.laid_errors_errorType)] W from h).2
theorem laidQun_ErrIndex {W : World} (h : laidMetH Tryz.prog laidQun W) : ∃ p, GErr 1 p W := gerr_of (n := "semblance/api.ErrIndex") (laidMet_subl (.cons _ (.cons _ (.cons_cons _ (List.nil_sublist _)))) (laidQun_data h)) (by kernel_rfl) (by kernel_rfl)
theorem laidQun_ErrSystem {W : World} (h : laidMetH Tryz.prog laidQun W) : ∃ p, GErr 0 p W := gerr_of (n := "semblance/api.ErrSystem") (laidMet_subl (.cons _ (.cons _ (.cons _ (.cons _ (.cons _ (.cons _ (.cons _ (.cons _ (.cons _ (.cons _ (.cons _ (.cons _ (.cons _ (.cons_cons _ (List.nil_sublist _))))))))))))))) (laidQun_data h)) (by kernel_rfl) (by kernel_rfl)
theorem laidQun_errs3 {W : World} (h : laidMetH Tryz.prog laidQun W) : ∃ p, ErrsK 3 p W := by
 obtain ⟨p, hG⟩ := laidQun_ErrIndex h
 have hd := laidQun_data h
 have s1 := sent_first hG (sent_pair (g0 := 2) (g1 := 1) (n0 := "semblance/api.ErrArg") (n1 := "semblance/api.ErrIndex") (laidMet_subl (l' := [("semblance/api.ErrArg", Rows.laid_semblance_api_ErrArg), ("semblance/api.ErrIndex", Rows.laid_semblance_api_ErrIndex)]) (.cons_cons _ (.cons _ (.cons_cons _ (List.nil_sublist _)))) hd) (by kernel_rfl) (by kernel_rfl) (by kernel_rfl) (by kernel_rfl))
 have s2 := sent_first hG (sent_pair (g0 := 3) (g1 := 1) (n0 := "semblance/api.ErrLong") (n1 := "semblance/api.ErrIndex") (laidMet_subl (l' := [("semblance/api.ErrLong", Rows.laid_semblance_api_ErrLong), ("semblance/api.ErrIndex", Rows.laid_semblance_api_ErrIndex)]) (.cons _ (.cons_cons _ (.cons_cons _ (List.nil_sublist _)))) hd) (by kernel_rfl) (by kernel_rfl) (by kernel_rfl) (by kernel_rfl))
 refine ⟨p, hG, s1.2, fun j h1 h2 => ?_⟩
 have hj : j = 1 ∨ j = 2 := by omega
 rcases hj with rfl | rfl
 · exact s1.1
 · exact s2.1
theorem laidQun_errs14 {W : World} (h : laidMetH Tryz.prog laidQun W) : ∃ p, ErrsK 14 p W := by
 obtain ⟨p, hG⟩ := laidQun_ErrSystem h
 have hd := laidQun_data h
 have s1 := sent_first hG (sent_pair (g0 := 2) (g1 := 0) (n0 := "semblance/api.ErrArg") (n1 := "semblance/api.ErrSystem") (laidMet_subl (l' := [("semblance/api.ErrArg", Rows.laid_semblance_api_ErrArg), ("semblance/api.ErrSystem", Rows.laid_semblance_api_ErrSystem)]) (.cons_cons _ (.cons _ (.cons _ (.cons _ (.cons _ (.cons _ (.cons _ (.cons _ (.cons _ (.cons _ (.cons _ (.cons _ (.cons _ (.cons_cons _ (List.nil_sublist _))))))))))))))) hd) (by kernel_rfl) (by kernel_rfl) (by kernel_rfl) (by kernel_rfl))
 have s2 := sent_first hG (sent_pair (g0 := 3) (g1 := 0) (n0 := "semblance/api.ErrLong") (n1 := "semblance/api.ErrSystem") (laidMet_subl (l' := [("semblance/api.ErrLong", Rows.laid_semblance_api_ErrLong), ("semblance/api.ErrSystem", Rows.laid_semblance_api_ErrSystem)]) (.cons _ (.cons_cons _ (.cons _ (.cons _ (.cons _ (.cons _ (.cons _ (.cons _ (.cons _ (.cons _ (.cons _ (.cons _ (.cons _ (.cons_cons _ (List.nil_sublist _))))))))))))))) hd) (by kernel_rfl) (by kernel_rfl) (by kernel_rfl) (by kernel_rfl))
 have s3 := sent_first hG (sent_pair (g0 := 1) (g1 := 0) (n0 := "semblance/api.ErrIndex") (n1 := "semblance/api.ErrSystem") (laidMet_subl (l' := [("semblance/api.ErrIndex", Rows.laid_semblance_api_ErrIndex), ("semblance/api.ErrSystem", Rows.laid_semblance_api_ErrSystem)]) (.cons _ (.cons _ (.cons_cons _ (.cons _ (.cons _ (.cons _ (.cons _ (.cons _ (.cons _ (.cons _ (.cons _ (.cons _ (.cons _ (.cons_cons _ (List.nil_sublist _))))))))))))))) hd) (by kernel_rfl) (by kernel_rfl) (by kernel_rfl) (by kernel_rfl))
 have s4 := sent_first hG (sent_pair (g0 := 4) (g1 := 0) (n0 := "semblance/api.ErrWord") (n1 := "semblance/api.ErrSystem") (laidMet_subl (l' := [("semblance/api.ErrWord", Rows.laid_semblance_api_ErrWord), ("semblance/api.ErrSystem", Rows.laid_semblance_api_ErrSystem)]) (.cons _ (.cons _ (.cons _ (.cons_cons _ (.cons _ (.cons _ (.cons _ (.cons _ (.cons _ (.cons _ (.cons _ (.cons _ (.cons _ (.cons_cons _ (List.nil_sublist _))))))))))))))) hd) (by kernel_rfl) (by kernel_rfl) (by kernel_rfl) (by kernel_rfl))
 have s5 := sent_first hG (sent_pair (g0 := 5) (g1 := 0) (n0 := "semblance/api.ErrSyntax") (n1 := "semblance/api.ErrSystem") (laidMet_subl (l' := [("semblance/api.ErrSyntax", Rows.laid_semblance_api_ErrSyntax), ("semblance/api.ErrSystem", Rows.laid_semblance_api_ErrSystem)]) (.cons _ (.cons _ (.cons _ (.cons _ (.cons_cons _ (.cons _ (.cons _ (.cons _ (.cons _ (.cons _ (.cons _ (.cons _ (.cons _ (.cons_cons _ (List.nil_sublist _))))))))))))))) hd) (by kernel_rfl) (by kernel_rfl) (by kernel_rfl) (by kernel_rfl))
 have s6 := sent_first hG (sent_pair (g0 := 6) (g1 := 0) (n0 := "semblance/api.ErrDeep") (n1 := "semblance/api.ErrSystem") (laidMet_subl (l' := [("semblance/api.ErrDeep", Rows.laid_semblance_api_ErrDeep), ("semblance/api.ErrSystem", Rows.laid_semblance_api_ErrSystem)]) (.cons _ (.cons _ (.cons _ (.cons _ (.cons _ (.cons_cons _ (.cons _ (.cons _ (.cons _ (.cons _ (.cons _ (.cons _ (.cons _ (.cons_cons _ (List.nil_sublist _))))))))))))))) hd) (by kernel_rfl) (by kernel_rfl) (by kernel_rfl) (by kernel_rfl))
 have s7 := sent_first hG (sent_pair (g0 := 7) (g1 := 0) (n0 := "semblance/api.ErrTwice") (n1 := "semblance/api.ErrSystem") (laidMet_subl (l' := [("semblance/api.ErrTwice", Rows.laid_semblance_api_ErrTwice), ("semblance/api.ErrSystem", Rows.laid_semblance_api_ErrSystem)]) (.cons _ (.cons _ (.cons _ (.cons _ (.cons _ (.cons _ (.cons_cons _ (.cons _ (.cons _ (.cons _ (.cons _ (.cons _ (.cons _ (.cons_cons _ (List.nil_sublist _))))))))))))))) hd) (by kernel_rfl) (by kernel_rfl) (by kernel_rfl) (by kernel_rfl))
 have s8 := sent_first hG (sent_pair (g0 := 8) (g1 := 0) (n0 := "semblance/api.ErrUnknown") (n1 := "semblance/api.ErrSystem") (laidMet_subl (l' := [("semblance/api.ErrUnknown", Rows.laid_semblance_api_ErrUnknown), ("semblance/api.ErrSystem", Rows.laid_semblance_api_ErrSystem)]) (.cons _ (.cons _ (.cons _ (.cons _ (.cons _ (.cons _ (.cons _ (.cons_cons _ (.cons _ (.cons _ (.cons _ (.cons _ (.cons _ (.cons_cons _ (List.nil_sublist _))))))))))))))) hd) (by kernel_rfl) (by kernel_rfl) (by kernel_rfl) (by kernel_rfl))
 have s9 := sent_first hG (sent_pair (g0 := 9) (g1 := 0) (n0 := "semblance/api.ErrSilent") (n1 := "semblance/api.ErrSystem") (laidMet_subl (l' := [("semblance/api.ErrSilent", Rows.laid_semblance_api_ErrSilent), ("semblance/api.ErrSystem", Rows.laid_semblance_api_ErrSystem)]) (.cons _ (.cons _ (.cons _ (.cons _ (.cons _ (.cons _ (.cons _ (.cons _ (.cons_cons _ (.cons _ (.cons _ (.cons _ (.cons _ (.cons_cons _ (List.nil_sublist _))))))))))))))) hd) (by kernel_rfl) (by kernel_rfl) (by kernel_rfl) (by kernel_rfl))
 have s10 := sent_first hG (sent_pair (g0 := 10) (g1 := 0) (n0 := "semblance/api.ErrUnguarded") (n1 := "semblance/api.ErrSystem") (laidMet_subl (l' := [("semblance/api.ErrUnguarded", Rows.laid_semblance_api_ErrUnguarded), ("semblance/api.ErrSystem", Rows.laid_semblance_api_ErrSystem)]) (.cons _ (.cons _ (.cons _ (.cons _ (.cons _ (.cons _ (.cons _ (.cons _ (.cons _ (.cons_cons _ (.cons _ (.cons _ (.cons _ (.cons_cons _ (List.nil_sublist _))))))))))))))) hd) (by kernel_rfl) (by kernel_rfl) (by kernel_rfl) (by kernel_rfl))
 have s11 := sent_first hG (sent_pair (g0 := 12) (g1 := 0) (n0 := "semblance/api.ErrSteps") (n1 := "semblance/api.ErrSystem") (laidMet_subl (l' := [("semblance/api.ErrSteps", Rows.laid_semblance_api_ErrSteps), ("semblance/api.ErrSystem", Rows.laid_semblance_api_ErrSystem)]) (.cons _ (.cons _ (.cons _ (.cons _ (.cons _ (.cons _ (.cons _ (.cons _ (.cons _ (.cons _ (.cons_cons _ (.cons _ (.cons _ (.cons_cons _ (List.nil_sublist _))))))))))))))) hd) (by kernel_rfl) (by kernel_rfl) (by kernel_rfl) (by kernel_rfl))
 have s12 := sent_first hG (sent_pair (g0 := 13) (g1 := 0) (n0 := "semblance/api.ErrStates") (n1 := "semblance/api.ErrSystem") (laidMet_subl (l' := [("semblance/api.ErrStates", Rows.laid_semblance_api_ErrStates), ("semblance/api.ErrSystem", Rows.laid_semblance_api_ErrSystem)]) (.cons _ (.cons _ (.cons _ (.cons _ (.cons _ (.cons _ (.cons _ (.cons _ (.cons _ (.cons _ (.cons _ (.cons_cons _ (.cons _ (.cons_cons _ (List.nil_sublist _))))))))))))))) hd) (by kernel_rfl) (by kernel_rfl) (by kernel_rfl) (by kernel_rfl))
 have s13 := sent_first hG (sent_pair (g0 := 14) (g1 := 0) (n0 := "semblance/api.ErrEdges") (n1 := "semblance/api.ErrSystem") (laidMet_subl (l' := [("semblance/api.ErrEdges", Rows.laid_semblance_api_ErrEdges), ("semblance/api.ErrSystem", Rows.laid_semblance_api_ErrSystem)]) (.cons _ (.cons _ (.cons _ (.cons _ (.cons _ (.cons _ (.cons _ (.cons _ (.cons _ (.cons _ (.cons _ (.cons _ (.cons_cons _ (.cons_cons _ (List.nil_sublist _))))))))))))))) hd) (by kernel_rfl) (by kernel_rfl) (by kernel_rfl) (by kernel_rfl))
 refine ⟨p, hG, s1.2, fun j h1 h2 => ?_⟩
 have hj : j = 1 ∨ j = 2 ∨ j = 3 ∨ j = 4 ∨ j = 5 ∨ j = 6 ∨ j = 7 ∨ j = 8 ∨ j = 9 ∨ j = 10 ∨ j = 11 ∨ j = 12 ∨ j = 13 := by omega
 rcases hj with rfl | rfl | rfl | rfl | rfl | rfl | rfl | rfl | rfl | rfl | rfl | rfl | rfl
 · exact s1.1
 · exact s2.1
 · exact s3.1
 · exact s4.1
 · exact s5.1
 · exact s6.1
 · exact s7.1
 · exact s8.1
 · exact s9.1
 · exact s10.1
 · exact s11.1
 · exact s12.1
 · exact s13.1
end Go.Proofs.YtgikimbafakmcaaGreatDoor
namespace Go.Proofs.YtgikimbafakmcaaGreatDoor
open Go.RowKit Pl Go.Maps
open Lib (hid)
theorem lawInt : Keyed Tryz.prog 3 := int_keyed Tryz.underlying3
theorem zeroInt (w : World) : (zeroValue 3).run Tryz.prog w = .ok (.int .i64 0) w := by kernel_rfl
structure MapD (D : DataW Unit) (s : List Int) : Prop where
  has : ∀ x : Int, Maps.has D (.int .i64 x) = decide (x ∈ s)
  key : ∀ x ∈ s, D.atKey (.int .i64 x) (.lit (.int .i64 0)) = .lit (.int .i64 (s.idxOf x : Int))
  len : Maps.size D = s.length
theorem MapD.nil : MapD (.map []) [] := ⟨fun x => by simp [Maps.has], fun x h => by simp at h, rfl⟩
theorem MapD.push {D : DataW Unit} {s : List Int} {x : Int} (h : MapD D s) (ht : Tidy D) (hx : x ∉ s) : MapD (D.put (.int .i64 x) (.lit (.int .i64 (s.length : Int)))) (s ++ [x]) where
  has y := by
    by_cases e : y = x
    · subst e; rw [has_put_same (k := .int .i64 y) ht.isMap trivial]; simp
    · rw [has_put_other (by intro h; cases h; exact e rfl), h.has]; simp [e]
  key y hy := by
    by_cases e : y = x
    · subst e; rw [atKey_put_same (k := .int .i64 y) ht.isMap trivial, List.idxOf_append]; simp [hx]
    · have hys : y ∈ s := by simpa [e] using hy
      rw [atKey_put_other (by intro h; cases h; exact e rfl), h.key y hys, List.idxOf_append]; simp [hys]
  len := by rw [size_put ht, h.has]; simp [hx, h.len]
theorem own_rowIs {w : World} {b n : Nat} {f : Nat -> Value} {xs : List Int} (h : w.rowIs b 3 n f) (hl : xs.length = n) (hf : ∀ i x, xs[i]? = some x -> f i = .int .i64 x) (hn : n <= maxLen) {base : Nat} (hb : base <= b) :
    w.ownsRow base 3 1 (.slice (some ⟨b, 0, none⟩) n n) n (xs.flatMap encI) := by
 obtain ⟨c, hh, hs, hc⟩ := h
 have hlen := length_flatMap lenI xs
 refine ⟨by omega, .inr ⟨b, n, c, rfl, hb, hh, Nat.le_refl _, hn, by omega, ?_⟩⟩
 rw [Nat.mul_one, List.take_of_length_le (by simp; omega)]
 apply List.ext_getElem?
 intro i
 by_cases hi : i < n
 · obtain ⟨x, hx⟩ := getElem?_of_lt (show i < xs.length by omega)
   have := getElem?_flatMap lenI xs i x hx 0 _ rfl
   rw [Array.getElem?_toList, hc i hi, hf i x hx]
   simpa using this.symm
 · rw [List.getElem?_eq_none (by simp; omega), List.getElem?_eq_none (by omega)]
def rowAtK (xs : List Int) (k : Nat) (j : Nat) : Value := .int .i64 (if j < k then ((dist xs).idxOf (xs.getD j 0) : Int) else 0)
theorem rowAtK_step {xs : List Int} {k : Nat} {x : Int} (hx : xs[k]? = some x) (i : Nat) : (if i = k then Value.int .i64 ((dist (xs.take (k + 1))).idxOf x : Int) else rowAtK xs k i) = rowAtK xs (k + 1) i := by
 unfold rowAtK
 by_cases e : i = k
 · subst e
   have hm : x ∈ xs.take (i + 1) := by rw [take_snoc hx]; simp
   rw [if_pos rfl, if_pos (by omega), List.getD_eq_getElem?_getD, hx, <- idx_append (xs.take (i + 1)) (xs.drop (i + 1)) hm, List.take_append_drop]; rfl
 · rw [if_neg e]
   by_cases h : i < k
   · rw [if_pos h, if_pos (by omega)]
   · rw [if_neg h, if_neg (by omega)]
set_option maxHeartbeats 2000000 in
theorem canon_any {w : World} {a : Option Addr} {b off c : Nat} {xs : List Int} (hS : SlAt encI 1 w a b off xs) (hn : xs.length <= 1000000) (hwf : ∀ x ∈ xs, (Lit.int .i64 x).wf = true) :
    Calls Tryz.prog 132 #[.slice a xs.length c] w fun e w' => ∃ v, e = .returned v /\ w'.ownsRow w.heap.size 3 1 v xs.length ((canon xs).flatMap encI) /\ Below w.heap.size w w' := by
 obtain ⟨n, hnn⟩ : ∃ n, n = xs.length := ⟨_, rfl⟩
 rw [<- hnn] at hn ⊢
 have hmk := run_make_row' (P := Tryz.prog) 58 3 (.int .i64 0) 8 Tryz.underlying58 (by kernel_rfl) rfl .i64 .i64 n (by omega) (by omega)
 have hmm := @run_makeMap Tryz.prog
 have HS := hid hS; have HWF := hid hwf; have HNN := hid hnn
 clear hS hwf hnn
 go_enter Tryz.func132, Tryz.ntmps132
 go_wp2_with fail
 go_loopw [5, 6, 7, 8, 15] (fun _ _ _ _ i wr => ∃ (k : Nat) (D : DataW Unit), k <= n /\ i = .int .i64 k /\ MapD D (dist (xs.take k)) /\ wr.ownsMap Tryz.prog 3 (plainElem Tryz.prog 3) w.heap.size k D /\
     wr.rowIs (w.heap.size + 1) 3 n (rowAtK xs k) /\ Below w.heap.size w wr)
   (fun _ _ _ _ i _ => n - (intOf i).toNat)
 case atStart => (
 refine ⟨0, .map [], Nat.zero_le _, rfl, by simpa [dist] using MapD.nil, (World.ownsMap_made _ _ _ _).alloc _, ?_, ((Below.refl _ _).alloc (Nat.le_refl _) _).alloc (by simp) _⟩
 have := World.rowIs_made (w.alloc (.map #[] 0)) (.int .i64 0) n 3
 exact (by simpa using this : World.rowIs _ (w.heap.size + 1) _ _ _).congr (fun i _ => by simp [rowAtK]))
 case round => (
 obtain ⟨k, D, hk, rfl, hmd, hown, hrow, hB⟩ := hrel
 have hm := hown.size_le
 have hsz := hB.size
 have hrlt := hrow.lt
 have hmlt := hown.lt
 have HMD := hid hmd; have HOWN := hid hown; have HROW := hid hrow; have HB := hid hB
 clear hmd hown hrow hB
 by_cases hlt : k < n
 · (
 obtain ⟨x, hx⟩ := getElem?_of_lt (xs := xs) (i := k) (by have := HNN.out; omega)
 obtain rfl := HS.out.ad (by have := HNN.out; omega)
 have hcx := (HS.out.below HB.out (Nat.le_refl _)).ci hx
 have hkey := keyOf_int_mk Tryz.underlying3 (HWF.out x (List.mem_of_getElem? hx))
 have hfr : wr.frozen? ⟨w.heap.size + 1, k, none⟩ = false := HROW.out.frozen k
 have hct := HROW.out.cell hlt
 have hkn : (k : Int) < (n : Int) := by omega
 have HX := hid hx
 clear hx
 by_cases hin : x ∈ dist (xs.take k)
 · (
 have hh : Maps.has D (.int .i64 x) = true := by rw [HMD.out.has]; simp [hin]
 have HH := hid hh
 clear hh
 go_wp2_with (at_lookup; refine wpList_lookup_own_ok_int _ rfl _ _ 177 rfl 3 3 .i64 lawInt Tryz.underlying177 Tryz.underlying3 (zeroInt _) w.heap.size k D rfl HOWN.out _ _ rfl hkey ?_; intro cc hat hwc; rw [HH.out])
 have hcc : cc = (((dist (xs.take k)).idxOf x : Nat) : Int) := by (
 have := HMD.out.key x hin
 rw [this] at hat
 simp only [DataW.lit.injEq, Lit.int.injEq] at hat
 exact hat.2.symm)
 subst hcc
 have hd : dist (xs.take (k + 1)) = dist (xs.take k) := by rw [take_snoc HX.out, dist_snoc]; unfold addN; rw [if_pos hin]
 have hrw := (HROW.out.set k (.int .i64 ((dist (xs.take (k + 1))).idxOf x : Int))).congr (fun i _ => rowAtK_step HX.out i)
 rw [hd] at hrw
 have HD := hid hd; have HRW := hid hrw
 clear hd hrw
 go_roundw
 case rel => exact ⟨k + 1, D, by omega, by go_num, by rw [HD.out]; exact HMD.out, (HOWN.out.setCell (by simp) _).mono (Nat.le_succ _), HRW.out, HB.out.setCell (by simp) _⟩
 case measure => simp [intOf]; omega)
 · (
 have hh : Maps.has D (.int .i64 x) = false := by rw [HMD.out.has]; simp [hin]
 have HH := hid hh; have HIN := hid hin
 clear hh hin
 have hml := HMD.out.len
 have hdl : (dist (xs.take k)).length <= k := by omega
 have HML := hid hml
 clear hml
 go_wp2_with (first
   | (at_lookup; refine wpList_lookup_own_ok_int _ rfl _ _ 177 rfl 3 3 .i64 lawInt Tryz.underlying177 Tryz.underlying3 (zeroInt _) w.heap.size k D rfl HOWN.out _ _ rfl hkey ?_; intro cc hat hwc; rw [HH.out])
   | (at_len; refine wpList_len_own _ rfl _ 177 rfl 3 3 Tryz.underlying177 _ w.heap.size k D rfl HOWN.out ?_; rw [HML.out])
   | (at_mapUpdate; refine wpList_mapUpdate_own _ rfl _ _ _ 177 rfl 3 3 lawInt Tryz.underlying177 _ w.heap.size k D rfl HOWN.out (by unfold maxLen; omega) _ _ _ rfl rfl hkey _ [] (plainElem_int Tryz.underlying3 (WalkArith.wf_i64 (by omega))) ?_; intro w1 hown1 hgrow1; have hct1 := (HROW.out.of_block (hgrow1.block _ hrlt (by simp))).cell hlt; have hfr1 : w1.frozen? ⟨w.heap.size + 1, k, none⟩ = false := (HROW.out.of_block (hgrow1.block _ hrlt (by simp))).frozen k; have hrlt1 := (HROW.out.of_block (hgrow1.block _ hrlt (by simp))).lt))
 have hd : dist (xs.take (k + 1)) = dist (xs.take k) ++ [x] := by rw [take_snoc HX.out, dist_snoc]; unfold addN; rw [if_neg HIN.out]
 have hix : (dist (xs.take (k + 1))).idxOf x = (dist (xs.take k)).length := by rw [hd, List.idxOf_append]; simp [HIN.out]
 have hrow1 : w1.rowIs (w.heap.size + 1) 3 n (rowAtK xs k) := HROW.out.of_block (hgrow1.block _ hrlt (by simp))
 have hB1 := HB.out.grown hgrow1 hsz (fun j hj => by cases hj; exact Nat.le_refl _)
 have hmd1 := HMD.out.push (HOWN.out.tidy lawInt) HIN.out
 rw [<- hd] at hmd1
 have hrw := (hrow1.set k (.int .i64 ((dist (xs.take (k + 1))).idxOf x : Int))).congr (fun i _ => rowAtK_step HX.out i)
 rw [hix] at hrw
 have HRW := hid hrw; have HB1 := hid hB1; have HMD1 := hid hmd1; have HOWN1 := hid hown1
 clear hd hix hrow1 hB1 hmd1 hrw hown1 hgrow1 hct hfr
 go_roundw
 case rel => exact ⟨k + 1, _, by omega, by go_num, HMD1.out, HOWN1.out.setCell (by simp) _, HRW.out, HB1.out.setCell (by simp) _⟩
 case measure => simp [intOf]; omega))
 · (
 obtain rfl : k = n := by omega
 go_wp2
 go_ret
 refine ⟨_, rfl, own_rowIs HROW.out (by rw [canon_len]; exact HNN.out.symm) ?_ (by unfold maxLen; omega) (by omega), HB.out⟩
 intro i x hx
 rw [canon_get] at hx
 obtain ⟨y, hy, rfl⟩ := Option.map_eq_some_iff.1 hx
 have hi := (List.getElem?_eq_some_iff.1 hy).1
 unfold rowAtK
 rw [if_pos (by have := HNN.out; omega), List.getD_eq_getElem?_getD, hy]; rfl))
end Go.Proofs.YtgikimbafakmcaaGreatDoor
namespace Go.Proofs.YtgikimbafakmcaaGreatDoor
open Go.RowKit Pl
theorem eq_upto {α : Type} {xs ys : List α} (hl : xs.length = ys.length) (h : ∀ j, j < xs.length -> xs[j]? = ys[j]?) : xs = ys := by
 apply List.ext_getElem? ; intro i
 by_cases hi : i < xs.length
 · exact h i hi
 · rw [List.getElem?_eq_none (by omega), List.getElem?_eq_none (by omega)]
theorem slicesEqual_any {a1 a2 : Option Addr} {b1 o1 c1 b2 o2 c2 : Nat} {xs ys : List Int} {w : World} (h1 : SlAt encI 1 w a1 b1 o1 xs) (h2 : SlAt encI 1 w a2 b2 o2 ys) (hx : xs.length <= 9223372036854775807) (hy : ys.length <= 9223372036854775807) :
    Calls Tryz.prog 148 #[.slice a1 xs.length c1, .slice a2 ys.length c2] w fun e w' => e = .returned (.bool (decide (xs = ys))) /\ ∃ n, w' = w.drewN n := by
 by_cases hl : xs.length = ys.length
 · have hlB : ((xs.length : Int) != (ys.length : Int)) = false := by simp [hl]
   have HL := Lib.hid hl; clear hl
   go_enter Tryz.func148, Tryz.ntmps148
   go_wp2
   go_loopw [5, 13] (fun _ i wr => ∃ k m : Nat, k <= xs.length /\ i = .int .i64 k /\ (∀ j, j < k -> xs[j]? = ys[j]?) /\ wr = w.drewN m)
     (fun _ i _ => xs.length - (intOf i).toNat)
   case atStart => exact ⟨0, 0, Nat.zero_le _, rfl, by intro j hj; omega, rfl⟩
   case round =>
     obtain ⟨k, m, hk, rfl, heq, rfl⟩ := hrel
     have HE := Lib.hid heq; clear heq
     by_cases hlt : k < xs.length
     · have hlt2 : k < ys.length := by rw [<- HL.out]; exact hlt
       obtain ⟨x, hxk⟩ := getElem?_of_lt hlt
       obtain ⟨y, hyk⟩ := getElem?_of_lt hlt2
       obtain rfl := h1.ad (by omega)
       obtain rfl := h2.ad (by omega)
       have hc0 := h1.ci hxk
       have hc1 := h2.ci hyk
       have hi1 : (k : Int) < (xs.length : Int) := by omega
       have hi2 : (k : Int) < (ys.length : Int) := by omega
       have HX := Lib.hid hxk; have HY := Lib.hid hyk
       clear h1 h2 hxk hyk
       by_cases hxy : x = y
       · have hb : (x != y) = false := by simp [hxy]
         have HXY := Lib.hid hxy; clear hxy
         go_wp2_with fail
         go_quiet (fail)
         go_wp2
         go_roundw
         case rel => exact ⟨k + 1, _, by omega, by go_num, by
           intro j hj
           by_cases hjk : j = k
           · subst hjk; rw [HX.out, HY.out, HXY.out]
           · exact HE.out j (by omega), rfl⟩
         case measure => simp [intOf]; omega
       · have hb : (x != y) = true := by simp [hxy]
         have HXY := Lib.hid hxy; clear hxy
         go_wp2_with fail
         go_quiet (fail)
         go_wp2
         go_ret
         refine ⟨?_, _, World.drewN_drewN _ _ _⟩
         have : xs ≠ ys := fun e => HXY.out (by have h1 := HX.out; have h2 := HY.out; rw [e, h2] at h1; simpa using h1.symm)
         simp [this]
     · clear h1 h2
       have hkk : k = xs.length := by omega
       go_wp2
       go_ret
       refine ⟨?_, _, rfl⟩
       have : xs = ys := eq_upto HL.out (by rw [<- hkk]; exact HE.out)
       simp [this]
 · have hlB : ((xs.length : Int) != (ys.length : Int)) = true := by simp; omega
   go_enter Tryz.func148, Tryz.ntmps148
   go_wp2
   go_ret
   have : xs ≠ ys := fun e => hl (by rw [e])
   exact ⟨by simp [this], 0, rfl⟩
end Go.Proofs.YtgikimbafakmcaaGreatDoor
namespace Go.Proofs.YtgikimbafakmcaaGreatDoor
open Go.RowKit Pl
theorem below_drewC {w0 w : World} {B n : Nat} (h : Below B w0 w) : Below B w0 (w.drewN n) := ⟨h.os, h.tape, h.output, h.size, h.block⟩
def clB (st : Int) (l : List Int) : Bool := decide ((l.length : Int) = st) && decide (l = canon l)
theorem classes_any {w : World} {a : Option Addr} {b off c : Nat} {l : List Int} (st lb s0 : Int) (ev : Value) (hS : SlAt encI 1 w a b off l) (hn : l.length <= 1000000) (hwf : ∀ x ∈ l, (Lit.int .i64 x).wf = true) :
    Calls Tryz.prog 117 #[.agg #[.int .i64 st, .int .i64 lb, .int .i64 s0, ev], .slice a l.length c] w fun e w' => e = .returned (.bool (clB st l)) /\ Below w.heap.size w w' := by
 have HS := Lib.hid hS; have HWF := Lib.hid hwf
 clear hS hwf
 unfold clB
 by_cases hl : (l.length : Int) = st
 · subst hl
   go_enter Tryz.func117, Tryz.ntmps117
   go_wp2_with fail
   have hB0 := (Below.refl w.heap.size w).alloc (Nat.le_refl _) (Obj.cells #[.int .i64 l.length, .int .i64 lb, .int .i64 s0, ev] 24)
   have hS0 := HS.out.below hB0 (Nat.le_refl _)
   refine (canon_any hS0 hn HWF.out).mono ?_
   rintro e w1 ⟨v, rfl, hown, hB1⟩
   have hlc := canon_len l
   rw [<- hlc] at hown
   obtain ⟨a1, c1, b1, rfl, _, _, hs1, _⟩ := slAt_own lenI hown
   have hB1' := hB0.trans (hB1.mono (by simp))
   have hq := slicesEqual_any (c1 := c) (c2 := c1) (HS.out.below hB1' (Nat.le_refl _)) hs1 (by omega) (by omega)
   rw [hlc] at hq
   have HQ := Lib.hid hq; have HB := Lib.hid hB1'
   clear hB0 hS0 hown hB1 hs1 hB1' hq
   go_wp2_with fail
   refine (HQ.out).mono ?_
   rintro e w2 ⟨rfl, m, rfl⟩
   go_wp2
   go_ret
   exact ⟨by simp, below_drewC HB.out⟩
 · have hb : ((l.length : Int) == st) = false := by simp [hl]
   go_enter Tryz.func117, Tryz.ntmps117
   go_wp2
   go_ret
   exact ⟨by simp [hl], (Below.refl w.heap.size w).alloc (Nat.le_refl _) _⟩
end Go.Proofs.YtgikimbafakmcaaGreatDoor
namespace Go.Proofs.YtgikimbafakmcaaGreatDoor
open Go.RowKit
theorem qT (i : Nat) {P : Program} {ops : Array Oper} {Q : Exit -> Act -> World -> Prop} {md : Region.Mode} {S : World -> Prop} {oi : Oper} {v : Value} {fuel : Nat} {listed : Array Bool} {a : Act} {w : World}
    (hv : ∀ w, S w -> (execOp a.eval oi).run P w = .ok (.value v) w) (h : wpAnyH P md ops Q S fuel (listed.setIfInBounds i true) (a.put oi.dst v) w)
    (hi : ops[i]? = some oi := by rfl) (hs : Region.noSelect ops = true := by kernel_rfl) (hf : Region.free md ops listed i = true := by kernel_rfl) (hr : (Region.ready md ops listed).contains i = true := by kernel_rfl)
    (hQ : ∀ c a w, Q (.panic c) (a.put oi.dst v) w -> Q (.panic c) a w := by exact fun _ _ _ h => h) (hw : Region.wanted oi (yielded ops a.tmps) = true := by rfl) (hS : S w := by assumption) :
    wpAnyH P md ops Q S (fuel + 1) listed a w :=
  wpAnyH_take hi hs hf hr hQ (.inl ⟨hw, hv⟩) hS h
end Go.Proofs.YtgikimbafakmcaaGreatDoor
