/-
  What the list errorType, ErrArg, ErrIndex, ErrSystem, ErrClasses of a row gives; a world for the witness.
  errors.Is over a fault of strong that wraps a fault of system.
-/
import Derived.Test.YtfakdgljilmpkaaGreatDoorLaidBase
import Derived.Test.YtfakdgljilmpkaaGreatDoorGFault
import Derived.Test.YtfakdgljilmpkaaGreatDoorGNewC
namespace Go.Proofs.YtfakdgljilmpkaaGreatDoor
open Go.ChangeShapes Go.WideShapes Go.ChangeAt Go.RowKit Go.Lib

def laidStr : List (String × DataW Unit) := [("errors.errorType", Rows.laid_errors_errorType), ("semblance/api.ErrArg", Rows.laid_semblance_api_ErrArg), ("semblance/api.ErrIndex", Rows.laid_semblance_api_ErrIndex), ("semblance/api.ErrSystem", Rows.laid_semblance_api_ErrSystem), ("semblance/api.ErrClasses", Rows.laid_semblance_api_ErrClasses)]
noncomputable def laidWorldStr (os : Os) : World :=
  let N := (World.settled Tryz.prog os).heap.size
  let w0 := World.holding Tryz.prog os ⟨#[.cells #[.string ⟨([97, 110, 32, 97, 114, 103, 117, 109, 101, 110, 116, 32, 116, 104, 97, 116, 32, 99, 97, 110, 39, 116, 32, 98, 101] : List UInt8).toArray⟩] 296, .cells #[.string ⟨([97, 32, 110, 117, 109, 98, 101, 114, 32, 116, 104, 97, 116, 32, 105, 115, 32, 110, 111, 116, 32, 116, 104, 101, 114, 101] : List UInt8).toArray⟩] 296, .cells #[.string ⟨([97, 32, 115, 121, 115, 116, 101, 109, 32, 116, 104, 97, 116, 32, 105, 115, 32, 110, 111, 110, 101] : List UInt8).toArray⟩] 296, .cells #[.string ⟨([99, 108, 97, 115, 115, 101, 115, 32, 116, 104, 97, 116, 32, 97, 114, 101, 32, 110, 111, 110, 101] : List UInt8).toArray⟩] 296], #[], []⟩
  let put := fun (h : Array Obj) (g : Nat) (cs : Array Value) => h.modify g fun
      | .cells _ t frozen => .cells cs t frozen
      | o => o
  { w0 with heap := put (put (put (put (put (w0.heap) 21 #[.iface 164 (.agg #[.pointer (some ⟨22, 28, none⟩)])]) 3 #[.iface 275 (.pointer (some ⟨N + 0, 0, none⟩))]) 1 #[.iface 275 (.pointer (some ⟨N + 1, 0, none⟩))]) 0 #[.iface 275 (.pointer (some ⟨N + 2, 0, none⟩))]) 2 #[.iface 275 (.pointer (some ⟨N + 3, 0, none⟩))] }
theorem laidInStr (os : Os) (args : Array Value) : LaidIn Tryz.prog ((laidWorldStr os).forCall (fun _ _ => 0) ⟨#[], args, []⟩).memory [("semblance/api.ErrArg", Rows.laid_semblance_api_ErrArg), ("semblance/api.ErrIndex", Rows.laid_semblance_api_ErrIndex), ("semblance/api.ErrSystem", Rows.laid_semblance_api_ErrSystem), ("semblance/api.ErrClasses", Rows.laid_semblance_api_ErrClasses)] [3, 1, 0, 2, nBlock + 0, nBlock + 1, nBlock + 2, nBlock + 3] :=
  LaidIn.of_run [3, 1, 0, 2, nBlock + 0, nBlock + 1, nBlock + 2, nBlock + 3] 8 (by kernel_rfl) (by kernel_rfl) (by kernel_rfl) (by kernel_rfl)
theorem laid_metStr (os : Os) (args : Array Value) : laidMetH Tryz.prog laidStr ((laidWorldStr os).forCall (fun _ _ => 0) ⟨#[], args, []⟩).memory :=
  laidMetH_of_parts (laidInStr os args).met (by kernel_rfl)
theorem laidStr_data {W : World} (h : laidMetH Tryz.prog laidStr W) : laidMet Tryz.prog [("semblance/api.ErrArg", Rows.laid_semblance_api_ErrArg), ("semblance/api.ErrIndex", Rows.laid_semblance_api_ErrIndex), ("semblance/api.ErrSystem", Rows.laid_semblance_api_ErrSystem), ("semblance/api.ErrClasses", Rows.laid_semblance_api_ErrClasses)] W := (show laidMet Tryz.prog [("semblance/api.ErrArg", Rows.laid_semblance_api_ErrArg), ("semblance/api.ErrIndex", Rows.laid_semblance_api_ErrIndex), ("semblance/api.ErrSystem", Rows.laid_semblance_api_ErrSystem), ("semblance/api.ErrClasses", Rows.laid_semblance_api_ErrClasses)] W ∧ handlesMet Tryz.prog [("errors.errorType", Rows.laid_errors_errorType)] W from h).1
theorem laidStr_errType {W : World} (h : laidMetH Tryz.prog laidStr W) : ErrType W := errType_of (show laidMet Tryz.prog [("semblance/api.ErrArg", Rows.laid_semblance_api_ErrArg), ("semblance/api.ErrIndex", Rows.laid_semblance_api_ErrIndex), ("semblance/api.ErrSystem", Rows.laid_semblance_api_ErrSystem), ("semblance/api.ErrClasses", Rows.laid_semblance_api_ErrClasses)] W ∧ handlesMet Tryz.prog [("errors.errorType", Rows.laid_errors_errorType)] W from h).2
theorem laidStr_ErrArg {W : World} (h : laidMetH Tryz.prog laidStr W) : ∃ p, GErr 3 p W := gerr_of (n := "semblance/api.ErrArg") (laidMet_subl (.cons_cons _ (List.nil_sublist _)) (laidStr_data h)) (by kernel_rfl) (by kernel_rfl)
theorem laidStr_ErrIndex {W : World} (h : laidMetH Tryz.prog laidStr W) : ∃ p, GErr 1 p W := gerr_of (n := "semblance/api.ErrIndex") (laidMet_subl (.cons _ (.cons_cons _ (List.nil_sublist _))) (laidStr_data h)) (by kernel_rfl) (by kernel_rfl)
theorem laidStr_ErrSystem {W : World} (h : laidMetH Tryz.prog laidStr W) : ∃ p, GErr 0 p W := gerr_of (n := "semblance/api.ErrSystem") (laidMet_subl (.cons _ (.cons _ (.cons_cons _ (List.nil_sublist _)))) (laidStr_data h)) (by kernel_rfl) (by kernel_rfl)
theorem laidStr_ErrClasses {W : World} (h : laidMetH Tryz.prog laidStr W) : ∃ p, GErr 2 p W := gerr_of (n := "semblance/api.ErrClasses") (laidMet_subl (.cons _ (.cons _ (.cons _ (.cons_cons _ (List.nil_sublist _))))) (laidStr_data h)) (by kernel_rfl) (by kernel_rfl)
end Go.Proofs.YtfakdgljilmpkaaGreatDoor

namespace Go.Proofs.YtfakdgljilmpkaaGreatDoor
open Go.RowKit Go.Extern.Stop Go.Stop Go.Extern Pl

set_option maxRecDepth 100000 in
/-- errors.Is(a fault that wraps a fault that wraps x itself, x). -/
theorem is_faultS_same (pb pc : Nat) (b : Addr) (w : World) (h1 : w.cell? ⟨pb, 3, none⟩ = some (.iface 160 (.pointer (some ⟨pc, 0, none⟩)))) (h2 : w.cell? ⟨pc, 3, none⟩ = some (.iface 275 (.pointer (some b)))) :
    Calls Tryz.prog 27 #[.iface 160 (.pointer (some ⟨pb, 0, none⟩)), .iface 275 (.pointer (some b))] w fun e w' => e = .returned (.bool true) ∧ w = w' := by
  obtain ⟨i, hi, hcmp⟩ := Option.map_eq_some_iff.1 isComp
  obtain ⟨j, hj, hjs⟩ := Option.map_eq_some_iff.1 isSize
  have tT := isTypeOf
  have cT := isComparable
  have mR := isMethodComparable
  have nE := noIsE
  have uE := noUnwrapE
  have vE := noUnwrapsE
  have nW := noIsW
  have uW := hasUnwrapW
  have mU := methodUnwrap
  have heq := run_eql_iface_ptr_same (P := Tryz.prog) w b Tryz.underlying28 Tryz.underlying275 hi hcmp hj
  have hty := run_eql_iface_types (P := Tryz.prog) 160 275 (.pointer (some ⟨pb, 0, none⟩)) (.pointer (some b)) Tryz.underlying28 (by decide) w
  have hty2 := run_eql_iface_types (P := Tryz.prog) 160 275 (.pointer (some ⟨pc, 0, none⟩)) (.pointer (some b)) Tryz.underlying28 (by decide) w
  go_enter Tryz.func27, Tryz.ntmps27
  go_wp2
  refine wp_loop_rounds 3 ?_
  rw [rounds_succ]
  go_wp2
  rw [rounds_succ]
  go_wp2
  rw [rounds_succ]
  go_wp2
  go_ret
  exact ⟨rfl, rfl⟩

/-- .. at a FaultS. -/
theorem is_FaultS {w : World} {p : Addr} {v : Value} (h : FaultS w p v) :
    Calls Tryz.prog 27 #[v, .iface 275 (.pointer (some p))] w fun e w' => e = .returned (.bool true) ∧ w = w' := by
  obtain ⟨vi, ⟨b, rfl, hb⟩, ⟨b2, rfl, hb2⟩⟩ := h
  exact is_faultS_same b b2 p w (by simp [World.cell?, hb]) (by simp [World.cell?, hb2])
end Go.Proofs.YtfakdgljilmpkaaGreatDoor
