/-
  What the list of all errors gives: each one that api.Code asks for ahead of ErrClasses is another one.
-/
import Derived.Test.YtfakdgljilmpkaaGreatDoorLaidEn
import Derived.Test.YtfakdgljilmpkaaGreatDoorCodeC
import Derived.Stop.LaidTwo
namespace Go.Proofs.YtfakdgljilmpkaaGreatDoor
open Go.ChangeShapes Go.WideShapes Go.ChangeAt Go.RowKit Go.Lib

/-- What two of the row's list give: the first one is another error than api.ErrClasses. -/
theorem sentC_of {n : String} {g : Nat} {text : List UInt8} {W : World} {p : Addr}
    (h : laidMet Tryz.prog [(n, .iface "*errors.errorString" (.ptr (.agg [.lit (.string text)]))), ("semblance/api.ErrClasses", Rows.laid_semblance_api_ErrClasses)] W)
    (hg : Tryz.prog.globalNamed n = some g) (ht : (Tryz.prog.globals[g]?).map (·.type) = some 28) (hc : W.cell? ⟨2, 0, none⟩ = some (.iface 275 (.pointer (some p)))) :
    SentC g p W ∧ ∃ c t, W.heap[p.block]? = some (.cells c t (0, 0)) := by
  obtain ⟨a0, a1, s0, s1, c0, c1, t0, t1, hv0, hv1, _, _, _, _, _, _, hne, hb0, hb1⟩ := laid_sentinels2 (g1 := 2) h hg ht (by kernel_rfl) (by kernel_rfl) Tryz.underlying28 row_es Tryz.underlying275 Tryz.underlying296 rfl rfl Tryz.underlying9 (by kernel_rfl) (by kernel_rfl)
  have hcell0 := World.var?_cell (g := g) hg hv0 0
  have hcell0 : W.cell? ⟨g, 0, none⟩ = some (.iface 275 (.pointer (some a0))) := by simpa using hcell0
  have hcell1 := World.var?_cell (g := 2) (by kernel_rfl) hv1 0
  have hcell1 : W.cell? ⟨2, 0, none⟩ = some (.iface 275 (.pointer (some a1))) := by simpa using hcell1
  rw [hc] at hcell1
  simp only [Option.some.injEq, Value.iface.injEq, Value.pointer.injEq, true_and] at hcell1
  subst hcell1
  exact ⟨⟨a0, c0, t0, ⟨World.block_lt_of_cell? _ _ hcell0, hcell0⟩, hne, hb0⟩, c1, t1, hb1⟩

theorem laidEn_errsC {W : World} (h : laidMetH Tryz.prog laidEn W) : ∃ p, ErrsC p W := by
  obtain ⟨p, hG⟩ := laidEn_ErrClasses h
  have h' := laidEn_data h
  obtain ⟨sArg, bArg⟩ := sentC_of (n := "semblance/api.ErrArg") (g := 3) (laidMet_subl (.cons_cons _ (.cons _ (.cons _ (.cons _ (.cons _ (.cons _ (.cons _ (.cons _ (.cons _ (.cons _ (.cons _ (.cons _ (.cons _ (.cons _ (.cons_cons _ (List.nil_sublist _)))))))))))))))) h') (by kernel_rfl) (by kernel_rfl) hG.cell
  obtain ⟨sLong, _⟩ := sentC_of (n := "semblance/api.ErrLong") (g := 4) (laidMet_subl (.cons _ (.cons_cons _ (.cons _ (.cons _ (.cons _ (.cons _ (.cons _ (.cons _ (.cons _ (.cons _ (.cons _ (.cons _ (.cons _ (.cons _ (.cons_cons _ (List.nil_sublist _)))))))))))))))) h') (by kernel_rfl) (by kernel_rfl) hG.cell
  obtain ⟨sIndex, _⟩ := sentC_of (n := "semblance/api.ErrIndex") (g := 1) (laidMet_subl (.cons _ (.cons _ (.cons_cons _ (.cons _ (.cons _ (.cons _ (.cons _ (.cons _ (.cons _ (.cons _ (.cons _ (.cons _ (.cons _ (.cons _ (.cons_cons _ (List.nil_sublist _)))))))))))))))) h') (by kernel_rfl) (by kernel_rfl) hG.cell
  obtain ⟨sWord, _⟩ := sentC_of (n := "semblance/api.ErrWord") (g := 5) (laidMet_subl (.cons _ (.cons _ (.cons _ (.cons_cons _ (.cons _ (.cons _ (.cons _ (.cons _ (.cons _ (.cons _ (.cons _ (.cons _ (.cons _ (.cons _ (.cons_cons _ (List.nil_sublist _)))))))))))))))) h') (by kernel_rfl) (by kernel_rfl) hG.cell
  obtain ⟨sSyntax, _⟩ := sentC_of (n := "semblance/api.ErrSyntax") (g := 6) (laidMet_subl (.cons _ (.cons _ (.cons _ (.cons _ (.cons_cons _ (.cons _ (.cons _ (.cons _ (.cons _ (.cons _ (.cons _ (.cons _ (.cons _ (.cons _ (.cons_cons _ (List.nil_sublist _)))))))))))))))) h') (by kernel_rfl) (by kernel_rfl) hG.cell
  obtain ⟨sDeep, _⟩ := sentC_of (n := "semblance/api.ErrDeep") (g := 7) (laidMet_subl (.cons _ (.cons _ (.cons _ (.cons _ (.cons _ (.cons_cons _ (.cons _ (.cons _ (.cons _ (.cons _ (.cons _ (.cons _ (.cons _ (.cons _ (.cons_cons _ (List.nil_sublist _)))))))))))))))) h') (by kernel_rfl) (by kernel_rfl) hG.cell
  obtain ⟨sTwice, _⟩ := sentC_of (n := "semblance/api.ErrTwice") (g := 8) (laidMet_subl (.cons _ (.cons _ (.cons _ (.cons _ (.cons _ (.cons _ (.cons_cons _ (.cons _ (.cons _ (.cons _ (.cons _ (.cons _ (.cons _ (.cons _ (.cons_cons _ (List.nil_sublist _)))))))))))))))) h') (by kernel_rfl) (by kernel_rfl) hG.cell
  obtain ⟨sUnknown, _⟩ := sentC_of (n := "semblance/api.ErrUnknown") (g := 9) (laidMet_subl (.cons _ (.cons _ (.cons _ (.cons _ (.cons _ (.cons _ (.cons _ (.cons_cons _ (.cons _ (.cons _ (.cons _ (.cons _ (.cons _ (.cons _ (.cons_cons _ (List.nil_sublist _)))))))))))))))) h') (by kernel_rfl) (by kernel_rfl) hG.cell
  obtain ⟨sSilent, _⟩ := sentC_of (n := "semblance/api.ErrSilent") (g := 10) (laidMet_subl (.cons _ (.cons _ (.cons _ (.cons _ (.cons _ (.cons _ (.cons _ (.cons _ (.cons_cons _ (.cons _ (.cons _ (.cons _ (.cons _ (.cons _ (.cons_cons _ (List.nil_sublist _)))))))))))))))) h') (by kernel_rfl) (by kernel_rfl) hG.cell
  obtain ⟨sUnguarded, _⟩ := sentC_of (n := "semblance/api.ErrUnguarded") (g := 11) (laidMet_subl (.cons _ (.cons _ (.cons _ (.cons _ (.cons _ (.cons _ (.cons _ (.cons _ (.cons _ (.cons_cons _ (.cons _ (.cons _ (.cons _ (.cons _ (.cons_cons _ (List.nil_sublist _)))))))))))))))) h') (by kernel_rfl) (by kernel_rfl) hG.cell
  obtain ⟨sSteps, _⟩ := sentC_of (n := "semblance/api.ErrSteps") (g := 14) (laidMet_subl (.cons _ (.cons _ (.cons _ (.cons _ (.cons _ (.cons _ (.cons _ (.cons _ (.cons _ (.cons _ (.cons_cons _ (.cons _ (.cons _ (.cons _ (.cons_cons _ (List.nil_sublist _)))))))))))))))) h') (by kernel_rfl) (by kernel_rfl) hG.cell
  obtain ⟨sStates, _⟩ := sentC_of (n := "semblance/api.ErrStates") (g := 15) (laidMet_subl (.cons _ (.cons _ (.cons _ (.cons _ (.cons _ (.cons _ (.cons _ (.cons _ (.cons _ (.cons _ (.cons _ (.cons_cons _ (.cons _ (.cons _ (.cons_cons _ (List.nil_sublist _)))))))))))))))) h') (by kernel_rfl) (by kernel_rfl) hG.cell
  obtain ⟨sEdges, _⟩ := sentC_of (n := "semblance/api.ErrEdges") (g := 12) (laidMet_subl (.cons _ (.cons _ (.cons _ (.cons _ (.cons _ (.cons _ (.cons _ (.cons _ (.cons _ (.cons _ (.cons _ (.cons _ (.cons_cons _ (.cons _ (.cons_cons _ (List.nil_sublist _)))))))))))))))) h') (by kernel_rfl) (by kernel_rfl) hG.cell
  obtain ⟨sSystem, _⟩ := sentC_of (n := "semblance/api.ErrSystem") (g := 0) (laidMet_subl (.cons _ (.cons _ (.cons _ (.cons _ (.cons _ (.cons _ (.cons _ (.cons _ (.cons _ (.cons _ (.cons _ (.cons _ (.cons _ (.cons_cons _ (.cons_cons _ (List.nil_sublist _)))))))))))))))) h') (by kernel_rfl) (by kernel_rfl) hG.cell
  exact ⟨p, hG, bArg, sArg, sLong, sIndex, sWord, sSyntax, sDeep, sTwice, sUnknown, sSilent, sUnguarded, sSteps, sStates, sEdges, sSystem⟩
end Go.Proofs.YtfakdgljilmpkaaGreatDoor
