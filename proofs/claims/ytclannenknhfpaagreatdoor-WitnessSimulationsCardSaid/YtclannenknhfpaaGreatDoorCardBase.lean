/-
  The frame of the cards: the world of the witness, the package-level error, how arguments open.
-/
import Derived.Test.YtclannenknhfpaaGreatDoorCards
import Derived.Test.YtclannenknhfpaaGreatDoorTie
import Derived.Test.YtclannenknhfpaaGreatDoorGKit
import Derived.ProofKit
import Derived.OpenShut
import Derived.Deep.DeepHandedRow
import Derived.Deep.DeepWitnessRowRef
import Derived.Lib.LaidIn
import Derived.Stop.LaidErr
namespace Go.Proofs.YtclannenknhfpaaGreatDoor
open Go.ChangeShapes Go.WideShapes Go.ChangeAt Go.RowKit Go.Lib

theorem ownKnob_none : ownKnob Tryz.prog.godebug = none := by kernel_rfl
theorem prog_laidOut : laidOutB Tryz.prog = true := by kernel_rfl

def sysText : List UInt8 := [97, 32, 115, 121, 115, 116, 101, 109, 32, 116, 104, 97, 116, 32, 105, 115, 32, 110, 111, 110, 101]

/-- A WORLD FOR THE WITNESS: the settled one, one block more: the error's struct; the variable holding its pointer. -/
noncomputable def laidWorld (os : Os) : World :=
  let N := (World.settled Tryz.prog os).heap.size
  let w0 := World.holding Tryz.prog os ⟨#[.cells #[.string ⟨sysText.toArray⟩] 220], #[], []⟩
  { w0 with heap := w0.heap.modify 15 fun
      | .cells _ t frozen => .cells #[.iface 197 (.pointer (some ⟨N, 0, none⟩))] t frozen
      | o => o }
noncomputable abbrev nBlock : Nat := (World.settled Tryz.prog default).heap.size
theorem laidIn_sys (os : Os) (args : Array Value) : LaidIn Tryz.prog ((laidWorld os).forCall (fun _ _ => 0) ⟨#[], args, []⟩).memory [("semblance/api.ErrSystem", Rows.laid_semblance_api_ErrSystem)] [15, nBlock] :=
  LaidIn.of_run [15, nBlock] 8 (by kernel_rfl) (by kernel_rfl) (by kernel_rfl) (by kernel_rfl)
theorem laid_met (os : Os) (args : Array Value) : laidMet Tryz.prog [("semblance/api.ErrSystem", Rows.laid_semblance_api_ErrSystem)] ((laidWorld os).forCall (fun _ _ => 0) ⟨#[], args, []⟩).memory :=
  (laidIn_sys os args).met

theorem star_es : "*" ++ "errors.errorString" = "*errors.errorString" := by decide
theorem row_es (u : TypeId) (h : Tryz.prog.typeName? 3 u = some "*errors.errorString") : u = 197 :=
  typeName_ptr_named (nm := "errors.errorString") (by rw [star_es]; kernel_rfl) (by kernel_rfl) (by decide) u (by rw [star_es]; exact h)

/-- WHAT THE ROW's LIST GIVES: the variable holds a pointer. -/
theorem gerr_sys {r : List (String × DataW Unit)} {W : World} (h : laidMet Tryz.prog (("semblance/api.ErrSystem", Rows.laid_semblance_api_ErrSystem) :: r) W) : ∃ p, GErr 15 p W := by
  obtain ⟨a, s, hv, hc, _, _⟩ := laid_sentinel (g := 15) h (by kernel_rfl) (by kernel_rfl) Tryz.underlying32 row_es Tryz.underlying197 Tryz.underlying220 rfl rfl Tryz.underlying9 (by kernel_rfl) (by kernel_rfl)
  have hcell := World.var?_cell (g := 15) (by kernel_rfl) hv 0
  have hcell : W.cell? ⟨15, 0, none⟩ = some (.iface 197 (.pointer (some a))) := by simpa using hcell
  exact ⟨a, World.block_lt_of_cell? _ _ hcell, hcell⟩

/-- A list of numbers that came in. -/
theorem open_intList {H : Type} {enc : TypeId × Value → H} {W : World} {fuel : Nat} {a : Option Addr} {n c : Nat} {x : DataW H × List MemPlace}
    (h : DataW.trod enc Tryz.prog W 0 (fun _ => true) true fuel 43 [.slice a n c] = some x) :
    ∃ (b off : Nat) (xs : List Int), n = xs.length ∧ xs.length ≤ maxLen ∧ SlAt encI 1 W a b off xs ∧ ∀ y ∈ xs, (Lit.int .i64 y).wf = true := by
  rcases open_ints Tryz.underlying43 Tryz.underlying3 (by kernel_rfl) h with ⟨hcs, _⟩ | ⟨ad, len, cap, zs, hcs, _, hl, hm, hz, _, hcell, hw⟩
  · simp at hcs
    obtain ⟨rfl, rfl, rfl⟩ := hcs
    exact ⟨0, 0, [], rfl, by simp, slAt_nil _ _ _ _, by simp⟩
  · simp at hcs
    obtain ⟨rfl, rfl, rfl⟩ := hcs
    simp only [if_true] at hz
    obtain ⟨b, off, spot⟩ := ad
    refine ⟨b, off, zs.take n, by simp; omega, by simp; omega, ?_, fun y hy => hw y (List.mem_of_mem_take hy)⟩
    have hcl : 0 < n → spot = none ∧ b < W.heap.size := by
      intro h0
      have hc0 := hcell 0 (by omega)
      have hspot : spot = none := by simpa [Addr.add] using World.cell?_spot hc0
      subst hspot
      exact ⟨rfl, World.block_lt_of_cell? _ _ hc0⟩
    refine ⟨fun hp => ?_, fun hp => (hcl (by simp at hp; omega)).2, fun i y hy j u hu => ?_⟩
    · obtain ⟨rfl, _⟩ := hcl (by simp at hp; omega)
      rfl
    · have hi : i < n := by have := (List.getElem?_eq_some_iff.1 hy).1; simp at this; omega
      obtain ⟨rfl, _⟩ := hcl (by omega)
      match j, hu with
      | 0, hu =>
        simp [encI] at hu; subst hu
        rw [List.getElem?_take_of_lt hi] at hy
        have := hcell i (by omega)
        rw [List.getD_eq_getElem?_getD, hy, Go.WideShapes.add_plain] at this
        simpa using this
end Go.Proofs.YtclannenknhfpaaGreatDoor
