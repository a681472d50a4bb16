/-
  What the list deBruijn64tab, errorType, ErrLong, ErrEdges, ErrSystem, errGreat of a row gives; a world for the witness.
-/
import Derived.Test.YtdhloijdefnkpaaGreatDoorLaidBase
import Derived.Test.YtdhloijdefnkpaaGreatDoorGWkC
import Derived.Test.YtdhloijdefnkpaaGreatDoorWkB
import Derived.Stop.LaidTwo
import Derived.Lib.LaidTab
import Derived.Lib.ItoaNum
namespace Go.Proofs.YtdhloijdefnkpaaGreatDoor
open Go.ChangeShapes Go.WideShapes Go.ChangeAt Go.RowKit Go.Lib

def laidWsi : List (String × DataW Unit) := [("math/bits.deBruijn64tab", Rows.laid_math_bits_deBruijn64tab), ("errors.errorType", Rows.laid_errors_errorType), ("semblance/api.ErrLong", Rows.laid_semblance_api_ErrLong), ("semblance/api.ErrEdges", Rows.laid_semblance_api_ErrEdges), ("semblance/api.ErrSystem", Rows.laid_semblance_api_ErrSystem), ("semblance/weak.errGreat", Rows.laid_semblance_weak_errGreat)]
noncomputable def laidWorldWsi (os : Os) : World :=
  let N := (World.settled Tryz.prog os).heap.size
  let w0 := World.holding Tryz.prog os ⟨#[.cells #[.string ⟨([116, 111, 111, 32, 108, 111, 110, 103, 44, 32, 111, 114, 32, 116, 111, 111, 32, 109, 97, 110, 121] : List UInt8).toArray⟩] 303, .cells #[.string ⟨([116, 111, 111, 32, 109, 97, 110, 121, 32, 101, 100, 103, 101, 115] : List UInt8).toArray⟩] 303, .cells #[.string ⟨([97, 32, 115, 121, 115, 116, 101, 109, 32, 116, 104, 97, 116, 32, 105, 115, 32, 110, 111, 110, 101] : List UInt8).toArray⟩] 303, .cells #[.string ⟨([97, 32, 115, 121, 115, 116, 101, 109, 32, 116, 104, 97, 116, 32, 105, 115, 32, 116, 111, 111, 32, 103, 114, 101, 97, 116] : List UInt8).toArray⟩] 303], #[], []⟩
  let put := fun (h : Array Obj) (g : Nat) (cs : Array Value) => h.modify g fun
      | .cells _ t frozen => .cells cs t frozen
      | o => o
  { w0 with heap := put (put (put (put (put (put (w0.heap) 13 #[.int .u8 0, .int .u8 1, .int .u8 56, .int .u8 2, .int .u8 57, .int .u8 49, .int .u8 28, .int .u8 3, .int .u8 61, .int .u8 58, .int .u8 42, .int .u8 50, .int .u8 38, .int .u8 29, .int .u8 17, .int .u8 4, .int .u8 62, .int .u8 47, .int .u8 59, .int .u8 36, .int .u8 45, .int .u8 43, .int .u8 51, .int .u8 22, .int .u8 53, .int .u8 39, .int .u8 33, .int .u8 30, .int .u8 24, .int .u8 18, .int .u8 12, .int .u8 5, .int .u8 63, .int .u8 55, .int .u8 48, .int .u8 27, .int .u8 60, .int .u8 41, .int .u8 37, .int .u8 16, .int .u8 46, .int .u8 35, .int .u8 44, .int .u8 21, .int .u8 52, .int .u8 32, .int .u8 23, .int .u8 11, .int .u8 54, .int .u8 26, .int .u8 40, .int .u8 15, .int .u8 34, .int .u8 20, .int .u8 31, .int .u8 10, .int .u8 25, .int .u8 14, .int .u8 19, .int .u8 9, .int .u8 13, .int .u8 8, .int .u8 7, .int .u8 6]) 21 #[.iface 144 (.agg #[.pointer (some ⟨24, 28, none⟩)])]) 4 #[.iface 285 (.pointer (some ⟨N + 0, 0, none⟩))]) 0 #[.iface 285 (.pointer (some ⟨N + 1, 0, none⟩))]) 1 #[.iface 285 (.pointer (some ⟨N + 2, 0, none⟩))]) 3 #[.iface 285 (.pointer (some ⟨N + 3, 0, none⟩))] }
theorem laidInWsi (os : Os) (args : Array Value) : LaidIn Tryz.prog ((laidWorldWsi os).forCall (fun _ _ => 0) ⟨#[], args, []⟩).memory [("math/bits.deBruijn64tab", Rows.laid_math_bits_deBruijn64tab), ("semblance/api.ErrLong", Rows.laid_semblance_api_ErrLong), ("semblance/api.ErrEdges", Rows.laid_semblance_api_ErrEdges), ("semblance/api.ErrSystem", Rows.laid_semblance_api_ErrSystem), ("semblance/weak.errGreat", Rows.laid_semblance_weak_errGreat)] [13, 4, 0, 1, 3, nBlock + 0, nBlock + 1, nBlock + 2, nBlock + 3] :=
  LaidIn.of_run [13, 4, 0, 1, 3, nBlock + 0, nBlock + 1, nBlock + 2, nBlock + 3] 8 (by kernel_rfl) (by kernel_rfl) (by kernel_rfl) (by kernel_rfl)
theorem laid_metWsi (os : Os) (args : Array Value) : laidMetH Tryz.prog laidWsi ((laidWorldWsi os).forCall (fun _ _ => 0) ⟨#[], args, []⟩).memory :=
  laidMetH_of_parts (laidInWsi os args).met (by kernel_rfl)
theorem laidWsi_data {W : World} (h : laidMetH Tryz.prog laidWsi W) : laidMet Tryz.prog [("math/bits.deBruijn64tab", Rows.laid_math_bits_deBruijn64tab), ("semblance/api.ErrLong", Rows.laid_semblance_api_ErrLong), ("semblance/api.ErrEdges", Rows.laid_semblance_api_ErrEdges), ("semblance/api.ErrSystem", Rows.laid_semblance_api_ErrSystem), ("semblance/weak.errGreat", Rows.laid_semblance_weak_errGreat)] W := (show laidMet Tryz.prog [("math/bits.deBruijn64tab", Rows.laid_math_bits_deBruijn64tab), ("semblance/api.ErrLong", Rows.laid_semblance_api_ErrLong), ("semblance/api.ErrEdges", Rows.laid_semblance_api_ErrEdges), ("semblance/api.ErrSystem", Rows.laid_semblance_api_ErrSystem), ("semblance/weak.errGreat", Rows.laid_semblance_weak_errGreat)] W ∧ handlesMet Tryz.prog [("errors.errorType", Rows.laid_errors_errorType)] W from h).1
theorem laidWsi_errType {W : World} (h : laidMetH Tryz.prog laidWsi W) : ErrType W := errType_of (show laidMet Tryz.prog [("math/bits.deBruijn64tab", Rows.laid_math_bits_deBruijn64tab), ("semblance/api.ErrLong", Rows.laid_semblance_api_ErrLong), ("semblance/api.ErrEdges", Rows.laid_semblance_api_ErrEdges), ("semblance/api.ErrSystem", Rows.laid_semblance_api_ErrSystem), ("semblance/weak.errGreat", Rows.laid_semblance_weak_errGreat)] W ∧ handlesMet Tryz.prog [("errors.errorType", Rows.laid_errors_errorType)] W from h).2
theorem laidWsi_ErrLong {W : World} (h : laidMetH Tryz.prog laidWsi W) : ∃ p, GErr 4 p W := gerr_of (n := "semblance/api.ErrLong") (laidMet_subl (.cons _ (.cons_cons _ (List.nil_sublist _))) (laidWsi_data h)) (by kernel_rfl) (by kernel_rfl)
theorem laidWsi_ErrEdges {W : World} (h : laidMetH Tryz.prog laidWsi W) : ∃ p, GErr 0 p W := gerr_of (n := "semblance/api.ErrEdges") (laidMet_subl (.cons _ (.cons _ (.cons_cons _ (List.nil_sublist _)))) (laidWsi_data h)) (by kernel_rfl) (by kernel_rfl)
theorem laidWsi_ErrSystem {W : World} (h : laidMetH Tryz.prog laidWsi W) : ∃ p, GErr 1 p W := gerr_of (n := "semblance/api.ErrSystem") (laidMet_subl (.cons _ (.cons _ (.cons _ (.cons_cons _ (List.nil_sublist _))))) (laidWsi_data h)) (by kernel_rfl) (by kernel_rfl)
theorem laidWsi_errGreat {W : World} (h : laidMetH Tryz.prog laidWsi W) : ∃ p, GErr 3 p W := gerr_of (n := "semblance/weak.errGreat") (laidMet_subl (.cons _ (.cons _ (.cons _ (.cons _ (.cons_cons _ (List.nil_sublist _)))))) (laidWsi_data h)) (by kernel_rfl) (by kernel_rfl)
theorem laidWsi_tab64 {W : World} (h : laidMetH Tryz.prog laidWsi W) : Tab W := by
  have h0 : laidMet Tryz.prog [("math/bits.deBruijn64tab", Rows.laid_math_bits_deBruijn64tab)] W := laidMet_subl (.cons_cons _ (List.nil_sublist _)) (laidWsi_data h)
  have h1 : TabIs Tryz.prog W "math/bits.deBruijn64tab" .u8 (Lib.deBruijn64tab.map Int.ofNat) :=
    tabIs_of_head (g := 13) (t := 165) (e := 5) (n := 64) (by kernel_rfl) (by kernel_rfl) Tryz.underlying165 Tryz.underlying5 (by kernel_rfl) (by kernel_rfl) h0
  intro j hj
  have h2 := h1.cell (g := 13) (by kernel_rfl) j (by simpa using hj)
  rw [show (Lib.deBruijn64tab.map Int.ofNat).getD j 0 = ((Lib.deBruijn64tab.getD j 0 : Nat) : Int) by rw [List.getD_eq_getElem?_getD, List.getD_eq_getElem?_getD, List.getElem?_map]; cases Lib.deBruijn64tab[j]? <;> rfl] at h2
  exact h2
theorem laidWsi_wk {W : World} (h : laidMetH Tryz.prog laidWsi W) : ∃ p, WkErr p W := by
  obtain ⟨p, hG⟩ := laidWsi_ErrSystem h
  have hm : laidMet Tryz.prog [("semblance/api.ErrSystem", Rows.laid_semblance_api_ErrSystem), ("semblance/weak.errGreat", Rows.laid_semblance_weak_errGreat)] W := laidMet_subl (.cons _ (.cons _ (.cons _ (.cons_cons _ (.cons_cons _ (List.nil_sublist _)))))) (laidWsi_data h)
  obtain ⟨a0, a1, s0, s1, c0, c1, t0, t1, hv0, hv1, _, _, _, _, _, _, hne, hb0, hb1⟩ := laid_sentinels2 (g0 := 1) (g1 := 3) hm (by kernel_rfl) (by kernel_rfl) (by kernel_rfl) (by kernel_rfl) Tryz.underlying28 row_es Tryz.underlying285 Tryz.underlying303 rfl rfl Tryz.underlying9 (by kernel_rfl) (by kernel_rfl)
  have hcell0 := World.var?_cell (g := 1) (by kernel_rfl) hv0 0
  have hcell0 : W.cell? ⟨1, 0, none⟩ = some (.iface 285 (.pointer (some a0))) := by simpa using hcell0
  have hcell1 := World.var?_cell (g := 3) (by kernel_rfl) hv1 0
  have hcell1 : W.cell? ⟨3, 0, none⟩ = some (.iface 285 (.pointer (some a1))) := by simpa using hcell1
  have hc := hG.cell
  rw [hc] at hcell0
  simp only [Option.some.injEq, Value.iface.injEq, Value.pointer.injEq, true_and] at hcell0
  subst hcell0
  exact ⟨p, ⟨hG, ⟨c0, t0, hb0⟩, ⟨a1, c1, t1, ⟨World.block_lt_of_cell? _ _ hcell1, hcell1⟩, Ne.symm hne, hb1⟩⟩⟩
end Go.Proofs.YtdhloijdefnkpaaGreatDoor
