/-
  What the list deBruijn64tab, errorType, ErrLong, ErrIndex, ErrSystem of a row gives; a world for the witness.
-/
import Derived.Test.YtbbjmompbmgnmaaDoorLaidBase
import Derived.Test.YtbbjmompbmgnmaaDoorSimB
import Derived.Lib.LaidTab
namespace Go.Proofs.YtbbjmompbmgnmaaDoor
open Go.ChangeShapes Go.WideShapes Go.ChangeAt Go.RowKit Go.Lib

def laidSim : List (String × DataW Unit) := [("math/bits.deBruijn64tab", Rows.laid_math_bits_deBruijn64tab), ("errors.errorType", Rows.laid_errors_errorType), ("semblance/api.ErrLong", Rows.laid_semblance_api_ErrLong), ("semblance/api.ErrIndex", Rows.laid_semblance_api_ErrIndex), ("semblance/api.ErrSystem", Rows.laid_semblance_api_ErrSystem)]
noncomputable def laidWorldSim (os : Os) : World :=
  let N := (World.settled Tryd.prog os).heap.size
  let w0 := World.holding Tryd.prog os ⟨#[.cells #[.string ⟨([116, 111, 111, 32, 108, 111, 110, 103, 44, 32, 111, 114, 32, 116, 111, 111, 32, 109, 97, 110, 121] : List UInt8).toArray⟩] 229, .cells #[.string ⟨([97, 32, 110, 117, 109, 98, 101, 114, 32, 116, 104, 97, 116, 32, 105, 115, 32, 110, 111, 116, 32, 116, 104, 101, 114, 101] : List UInt8).toArray⟩] 229, .cells #[.string ⟨([97, 32, 115, 121, 115, 116, 101, 109, 32, 116, 104, 97, 116, 32, 105, 115, 32, 110, 111, 110, 101] : List UInt8).toArray⟩] 229], #[], []⟩
  let put := fun (h : Array Obj) (g : Nat) (cs : Array Value) => h.modify g fun
      | .cells _ t frozen => .cells cs t frozen
      | o => o
  { w0 with heap := put (put (put (put (put (w0.heap) 4 #[.int .u8 0, .int .u8 1, .int .u8 56, .int .u8 2, .int .u8 57, .int .u8 49, .int .u8 28, .int .u8 3, .int .u8 61, .int .u8 58, .int .u8 42, .int .u8 50, .int .u8 38, .int .u8 29, .int .u8 17, .int .u8 4, .int .u8 62, .int .u8 47, .int .u8 59, .int .u8 36, .int .u8 45, .int .u8 43, .int .u8 51, .int .u8 22, .int .u8 53, .int .u8 39, .int .u8 33, .int .u8 30, .int .u8 24, .int .u8 18, .int .u8 12, .int .u8 5, .int .u8 63, .int .u8 55, .int .u8 48, .int .u8 27, .int .u8 60, .int .u8 41, .int .u8 37, .int .u8 16, .int .u8 46, .int .u8 35, .int .u8 44, .int .u8 21, .int .u8 52, .int .u8 32, .int .u8 23, .int .u8 11, .int .u8 54, .int .u8 26, .int .u8 40, .int .u8 15, .int .u8 34, .int .u8 20, .int .u8 31, .int .u8 10, .int .u8 25, .int .u8 14, .int .u8 19, .int .u8 9, .int .u8 13, .int .u8 8, .int .u8 7, .int .u8 6]) 5 #[.iface 132 (.agg #[.pointer (some ⟨6, 31, none⟩)])]) 3 #[.iface 208 (.pointer (some ⟨N + 0, 0, none⟩))]) 2 #[.iface 208 (.pointer (some ⟨N + 1, 0, none⟩))]) 0 #[.iface 208 (.pointer (some ⟨N + 2, 0, none⟩))] }
theorem laidInSim (os : Os) (args : Array Value) : LaidIn Tryd.prog ((laidWorldSim os).forCall (fun _ _ => 0) ⟨#[], args, []⟩).memory [("math/bits.deBruijn64tab", Rows.laid_math_bits_deBruijn64tab), ("semblance/api.ErrLong", Rows.laid_semblance_api_ErrLong), ("semblance/api.ErrIndex", Rows.laid_semblance_api_ErrIndex), ("semblance/api.ErrSystem", Rows.laid_semblance_api_ErrSystem)] [4, 3, 2, 0, nBlock + 0, nBlock + 1, nBlock + 2] :=
  LaidIn.of_run [4, 3, 2, 0, nBlock + 0, nBlock + 1, nBlock + 2] 8 (by kernel_rfl) (by kernel_rfl) (by kernel_rfl) (by kernel_rfl)
theorem laid_metSim (os : Os) (args : Array Value) : laidMetH Tryd.prog laidSim ((laidWorldSim os).forCall (fun _ _ => 0) ⟨#[], args, []⟩).memory :=
  laidMetH_of_parts (laidInSim os args).met (by kernel_rfl)
theorem laidSim_data {W : World} (h : laidMetH Tryd.prog laidSim W) : laidMet Tryd.prog [("math/bits.deBruijn64tab", Rows.laid_math_bits_deBruijn64tab), ("semblance/api.ErrLong", Rows.laid_semblance_api_ErrLong), ("semblance/api.ErrIndex", Rows.laid_semblance_api_ErrIndex), ("semblance/api.ErrSystem", Rows.laid_semblance_api_ErrSystem)] W := (show laidMet Tryd.prog [("math/bits.deBruijn64tab", Rows.laid_math_bits_deBruijn64tab), ("semblance/api.ErrLong", Rows.laid_semblance_api_ErrLong), ("semblance/api.ErrIndex", Rows.laid_semblance_api_ErrIndex), ("semblance/api.ErrSystem", Rows.laid_semblance_api_ErrSystem)] W ∧ handlesMet Tryd.prog [("errors.errorType", Rows.laid_errors_errorType)] W from h).1
theorem laidSim_errType {W : World} (h : laidMetH Tryd.prog laidSim W) : ErrType W := errType_of (show laidMet Tryd.prog [("math/bits.deBruijn64tab", Rows.laid_math_bits_deBruijn64tab), ("semblance/api.ErrLong", Rows.laid_semblance_api_ErrLong), ("semblance/api.ErrIndex", Rows.laid_semblance_api_ErrIndex), ("semblance/api.ErrSystem", Rows.laid_semblance_api_ErrSystem)] W ∧ handlesMet Tryd.prog [("errors.errorType", Rows.laid_errors_errorType)] W from h).2
theorem laidSim_ErrLong {W : World} (h : laidMetH Tryd.prog laidSim W) : ∃ p, GErr 3 p W := gerr_of (n := "semblance/api.ErrLong") (laidMet_subl (.cons _ (.cons_cons _ (List.nil_sublist _))) (laidSim_data h)) (by kernel_rfl) (by kernel_rfl)
theorem laidSim_ErrIndex {W : World} (h : laidMetH Tryd.prog laidSim W) : ∃ p, GErr 2 p W := gerr_of (n := "semblance/api.ErrIndex") (laidMet_subl (.cons _ (.cons _ (.cons_cons _ (List.nil_sublist _)))) (laidSim_data h)) (by kernel_rfl) (by kernel_rfl)
theorem laidSim_ErrSystem {W : World} (h : laidMetH Tryd.prog laidSim W) : ∃ p, GErr 0 p W := gerr_of (n := "semblance/api.ErrSystem") (laidMet_subl (.cons _ (.cons _ (.cons _ (.cons_cons _ (List.nil_sublist _))))) (laidSim_data h)) (by kernel_rfl) (by kernel_rfl)
theorem getD_ofNat (l : List Nat) (j : Nat) : (l.map Int.ofNat).getD j 0 = ((l.getD j 0 : Nat) : Int) := by
  rw [List.getD_eq_getElem?_getD, List.getD_eq_getElem?_getD, List.getElem?_map]
  rcases l[j]? with _ | x <;> rfl
theorem laidSim_tab64 {W : World} (h : laidMetH Tryd.prog laidSim W) : Tab W := by
  have h1 : TabIs Tryd.prog W "math/bits.deBruijn64tab" .u8 (Lib.deBruijn64tab.map Int.ofNat) :=
    tabIs_of_head (g := 4) (t := 157) (e := 5) (n := 64) (by kernel_rfl) (by kernel_rfl) Tryd.underlying157 Tryd.underlying5 (by kernel_rfl) (by kernel_rfl) (laidSim_data h)
  intro j hj
  have h2 := h1.cell (g := 4) (by kernel_rfl) j (by simpa using hj)
  rw [getD_ofNat] at h2
  exact h2
end Go.Proofs.YtbbjmompbmgnmaaDoor
