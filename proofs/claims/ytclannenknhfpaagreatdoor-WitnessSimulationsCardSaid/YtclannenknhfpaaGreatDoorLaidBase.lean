/-
  What a row's list of package-level variables gives: a sentinel, the handle of 'error'.
-/
import Derived.Test.YtclannenknhfpaaGreatDoorCardSys
import Derived.Test.YtclannenknhfpaaGreatDoorGAs
import Derived.LaidHandle
namespace Go.Proofs.YtclannenknhfpaaGreatDoor
open Go.ChangeShapes Go.WideShapes Go.ChangeAt Go.RowKit Go.Lib

theorem laidVars_subl {P : Program} {w : World} {l' l : List (String × DataW Unit)} (h : l'.Sublist l) : ∀ {ps : List MemPlace}, DataW.LaidVars P w l ps → ∃ ps', DataW.LaidVars P w l' ps' ∧ ps'.Sublist ps := by
  induction h with
  | slnil => intro ps hv; exact ⟨ps, hv, List.Sublist.refl _⟩
  | cons a _ ih =>
    intro ps hv
    obtain ⟨n, d⟩ := a
    obtain ⟨g, t, cs, fuel, p, q, _, _, _, _, hq, rfl⟩ := hv
    obtain ⟨ps', h1, h2⟩ := ih hq
    exact ⟨ps', h1, h2.trans (List.sublist_append_right _ _)⟩
  | cons_cons a _ ih =>
    intro ps hv
    obtain ⟨n, d⟩ := a
    obtain ⟨g, t, cs, fuel, p, q, h1, h2, h3, h4, hq, rfl⟩ := hv
    obtain ⟨ps', h5, h6⟩ := ih hq
    exact ⟨_, ⟨g, t, cs, fuel, p, ps', h1, h2, h3, h4, h5, rfl⟩, List.Sublist.append (List.Sublist.refl _) h6⟩
theorem laidMet_subl {P : Program} {w : World} {l' l : List (String × DataW Unit)} (hs : l'.Sublist l) (h : laidMet P l w) : laidMet P l' w := by
  obtain ⟨ps, hv, hnd, hrows⟩ := h
  obtain ⟨ps', h1, h2⟩ := laidVars_subl hs hv
  exact ⟨ps', h1, hnd.sublist h2, fun b off hm => hrows b off (h2.subset hm)⟩

/-- A sentinel: its variable holds a pointer. -/
theorem gerr_of {n : String} {g : Nat} {text : List UInt8} {W : World} (h : laidMet Tryz.prog [(n, .iface "*errors.errorString" (.ptr (.agg [.lit (.string text)])))] W)
    (hg : Tryz.prog.globalNamed n = some g) (ht : (Tryz.prog.globals[g]?).map (·.type) = some 32) : ∃ p, GErr g p W := by
  obtain ⟨a, s, hv, hc, _, _⟩ := laid_sentinel (g := g) h hg ht Tryz.underlying32 row_es Tryz.underlying197 Tryz.underlying220 rfl rfl Tryz.underlying9 (by kernel_rfl) (by kernel_rfl)
  have hcell := World.var?_cell (g := g) hg hv 0
  have hcell : W.cell? ⟨g, 0, none⟩ = some (.iface 197 (.pointer (some a))) := by simpa using hcell
  exact ⟨a, World.block_lt_of_cell? _ _ hcell, hcell⟩

theorem et_named : Tryz.prog.globalNamed "errors.errorType" = some 11 := by kernel_rfl
theorem et_rt : (Tryz.prog.cutTypes.find? (·.1 == "internal/reflectlite.rtype")).map (·.2) = some 169 := by kernel_rfl
theorem et_rows : ((List.range 232).filter fun t => Tryz.prog.rowNamed t [101, 114, 114, 111, 114]) = [32] := by kernel_rfl
theorem et_size : Tryz.prog.types.size = 232 := by kernel_rfl

/-- The handle of 'error'. -/
theorem errType_of {W : World} (h : handlesMet Tryz.prog [("errors.errorType", Rows.laid_errors_errorType)] W) : ErrType W := by
  obtain ⟨name, u, ty, e1, e2, e3, e4, e5⟩ := h _ (List.mem_singleton.2 rfl)
  have en : name = [101, 114, 114, 111, 114] := (Option.some.inj e1).symm
  subst en
  obtain rfl := Option.some.inj (et_rt.symm.trans e2)
  have hm : ty ∈ (List.range 232).filter fun t => Tryz.prog.rowNamed t [101, 114, 114, 111, 114] := List.mem_filter.2 ⟨List.mem_range.2 (by rw [← et_size]; exact e3), e4⟩
  rw [et_rows] at hm
  obtain rfl := List.mem_singleton.1 hm
  have hh : typeHandle Tryz.prog 32 = .pointer (some ⟨20, 32, none⟩) := by kernel_rfl
  rw [hh] at e5
  exact ⟨by simpa using World.var?_cell et_named e5 0⟩
end Go.Proofs.YtclannenknhfpaaGreatDoor
