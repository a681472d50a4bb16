/-
  What the list of all errors gives: each one that api.Code asks for ahead of ErrSystem is another one.
-/
import Derived.Test.YtmlmjhmdjieigaaGreatDoorLaidAl
import Derived.Test.YtmlmjhmdjieigaaGreatDoorCodeQ
import Derived.Stop.LaidTwo
namespace Go.Proofs.YtmlmjhmdjieigaaGreatDoor
open Go.ChangeShapes Go.WideShapes Go.ChangeAt Go.RowKit Go.Lib

/-- What two of the row's list give: the first one is another error than api.ErrSystem. -/
theorem sentQ_of {n : String} {g : Nat} {text : List UInt8} {W : World} {p : Addr}
    (h : laidMet Tryz.prog [(n, .iface "*errors.errorString" (.ptr (.agg [.lit (.string text)]))), ("semblance/api.ErrSystem", Rows.laid_semblance_api_ErrSystem)] W)
    (hg : Tryz.prog.globalNamed n = some g) (ht : (Tryz.prog.globals[g]?).map (·.type) = some 29) (hc : W.cell? ⟨10, 0, none⟩ = some (.iface 244 (.pointer (some p)))) :
    SentQ g p W ∧ ∃ c t, W.heap[p.block]? = some (.cells c t (0, 0)) := by
  obtain ⟨a0, a1, s0, s1, c0, c1, t0, t1, hv0, hv1, _, _, _, _, _, _, hne, hb0, hb1⟩ := laid_sentinels2 (g1 := 10) h hg ht (by kernel_rfl) (by kernel_rfl) Tryz.underlying29 row_es Tryz.underlying244 Tryz.underlying264 rfl rfl Tryz.underlying9 (by kernel_rfl) (by kernel_rfl)
  have hcell0 := World.var?_cell (g := g) hg hv0 0
  have hcell0 : W.cell? ⟨g, 0, none⟩ = some (.iface 244 (.pointer (some a0))) := by simpa using hcell0
  have hcell1 := World.var?_cell (g := 10) (by kernel_rfl) hv1 0
  have hcell1 : W.cell? ⟨10, 0, none⟩ = some (.iface 244 (.pointer (some a1))) := by simpa using hcell1
  rw [hc] at hcell1
  simp only [Option.some.injEq, Value.iface.injEq, Value.pointer.injEq, true_and] at hcell1
  subst hcell1
  exact ⟨⟨a0, c0, t0, ⟨World.block_lt_of_cell? _ _ hcell0, hcell0⟩, hne, hb0⟩, c1, t1, hb1⟩

theorem laidAl_errsQ {W : World} (h : laidMetH Tryz.prog laidAl W) : ∃ p, ErrsQ p W := by
  obtain ⟨p, hG⟩ := laidAl_ErrSystem h
  have h' := laidAl_data h
  obtain ⟨sArg, bArg⟩ := sentQ_of (n := "semblance/api.ErrArg") (g := 1) (laidMet_subl (.cons _ (.cons _ (.cons _ (.cons_cons _ (.cons _ (.cons _ (.cons _ (.cons _ (.cons _ (.cons _ (.cons _ (.cons _ (.cons _ (.cons _ (.cons _ (.cons _ (.cons_cons _ (List.nil_sublist _)))))))))))))))))) h') (by kernel_rfl) (by kernel_rfl) hG.cell
  obtain ⟨sLong, bLong'⟩ := sentQ_of (n := "semblance/api.ErrLong") (g := 2) (laidMet_subl (.cons _ (.cons _ (.cons _ (.cons _ (.cons_cons _ (.cons _ (.cons _ (.cons _ (.cons _ (.cons _ (.cons _ (.cons _ (.cons _ (.cons _ (.cons _ (.cons _ (.cons_cons _ (List.nil_sublist _)))))))))))))))))) h') (by kernel_rfl) (by kernel_rfl) hG.cell
  obtain ⟨sIndex, bIndex'⟩ := sentQ_of (n := "semblance/api.ErrIndex") (g := 0) (laidMet_subl (.cons _ (.cons _ (.cons _ (.cons _ (.cons _ (.cons_cons _ (.cons _ (.cons _ (.cons _ (.cons _ (.cons _ (.cons _ (.cons _ (.cons _ (.cons _ (.cons _ (.cons_cons _ (List.nil_sublist _)))))))))))))))))) h') (by kernel_rfl) (by kernel_rfl) hG.cell
  obtain ⟨sWord, bWord'⟩ := sentQ_of (n := "semblance/api.ErrWord") (g := 3) (laidMet_subl (.cons _ (.cons _ (.cons _ (.cons _ (.cons _ (.cons _ (.cons_cons _ (.cons _ (.cons _ (.cons _ (.cons _ (.cons _ (.cons _ (.cons _ (.cons _ (.cons _ (.cons_cons _ (List.nil_sublist _)))))))))))))))))) h') (by kernel_rfl) (by kernel_rfl) hG.cell
  obtain ⟨sSyntax, bSyntax'⟩ := sentQ_of (n := "semblance/api.ErrSyntax") (g := 4) (laidMet_subl (.cons _ (.cons _ (.cons _ (.cons _ (.cons _ (.cons _ (.cons _ (.cons_cons _ (.cons _ (.cons _ (.cons _ (.cons _ (.cons _ (.cons _ (.cons _ (.cons _ (.cons_cons _ (List.nil_sublist _)))))))))))))))))) h') (by kernel_rfl) (by kernel_rfl) hG.cell
  obtain ⟨sDeep, bDeep'⟩ := sentQ_of (n := "semblance/api.ErrDeep") (g := 5) (laidMet_subl (.cons _ (.cons _ (.cons _ (.cons _ (.cons _ (.cons _ (.cons _ (.cons _ (.cons_cons _ (.cons _ (.cons _ (.cons _ (.cons _ (.cons _ (.cons _ (.cons _ (.cons_cons _ (List.nil_sublist _)))))))))))))))))) h') (by kernel_rfl) (by kernel_rfl) hG.cell
  obtain ⟨sTwice, bTwice'⟩ := sentQ_of (n := "semblance/api.ErrTwice") (g := 6) (laidMet_subl (.cons _ (.cons _ (.cons _ (.cons _ (.cons _ (.cons _ (.cons _ (.cons _ (.cons _ (.cons_cons _ (.cons _ (.cons _ (.cons _ (.cons _ (.cons _ (.cons _ (.cons_cons _ (List.nil_sublist _)))))))))))))))))) h') (by kernel_rfl) (by kernel_rfl) hG.cell
  obtain ⟨sUnknown, bUnknown'⟩ := sentQ_of (n := "semblance/api.ErrUnknown") (g := 7) (laidMet_subl (.cons _ (.cons _ (.cons _ (.cons _ (.cons _ (.cons _ (.cons _ (.cons _ (.cons _ (.cons _ (.cons_cons _ (.cons _ (.cons _ (.cons _ (.cons _ (.cons _ (.cons_cons _ (List.nil_sublist _)))))))))))))))))) h') (by kernel_rfl) (by kernel_rfl) hG.cell
  obtain ⟨sSilent, bSilent'⟩ := sentQ_of (n := "semblance/api.ErrSilent") (g := 8) (laidMet_subl (.cons _ (.cons _ (.cons _ (.cons _ (.cons _ (.cons _ (.cons _ (.cons _ (.cons _ (.cons _ (.cons _ (.cons_cons _ (.cons _ (.cons _ (.cons _ (.cons _ (.cons_cons _ (List.nil_sublist _)))))))))))))))))) h') (by kernel_rfl) (by kernel_rfl) hG.cell
  obtain ⟨sUnguarded, bUnguarded'⟩ := sentQ_of (n := "semblance/api.ErrUnguarded") (g := 9) (laidMet_subl (.cons _ (.cons _ (.cons _ (.cons _ (.cons _ (.cons _ (.cons _ (.cons _ (.cons _ (.cons _ (.cons _ (.cons _ (.cons_cons _ (.cons _ (.cons _ (.cons _ (.cons_cons _ (List.nil_sublist _)))))))))))))))))) h') (by kernel_rfl) (by kernel_rfl) hG.cell
  obtain ⟨sSteps, bSteps'⟩ := sentQ_of (n := "semblance/api.ErrSteps") (g := 12) (laidMet_subl (.cons _ (.cons _ (.cons _ (.cons _ (.cons _ (.cons _ (.cons _ (.cons _ (.cons _ (.cons _ (.cons _ (.cons _ (.cons _ (.cons_cons _ (.cons _ (.cons _ (.cons_cons _ (List.nil_sublist _)))))))))))))))))) h') (by kernel_rfl) (by kernel_rfl) hG.cell
  obtain ⟨sStates, bStates'⟩ := sentQ_of (n := "semblance/api.ErrStates") (g := 13) (laidMet_subl (.cons _ (.cons _ (.cons _ (.cons _ (.cons _ (.cons _ (.cons _ (.cons _ (.cons _ (.cons _ (.cons _ (.cons _ (.cons _ (.cons _ (.cons_cons _ (.cons _ (.cons_cons _ (List.nil_sublist _)))))))))))))))))) h') (by kernel_rfl) (by kernel_rfl) hG.cell
  obtain ⟨sEdges, bEdges'⟩ := sentQ_of (n := "semblance/api.ErrEdges") (g := 14) (laidMet_subl (.cons _ (.cons _ (.cons _ (.cons _ (.cons _ (.cons _ (.cons _ (.cons _ (.cons _ (.cons _ (.cons _ (.cons _ (.cons _ (.cons _ (.cons _ (.cons_cons _ (.cons_cons _ (List.nil_sublist _)))))))))))))))))) h') (by kernel_rfl) (by kernel_rfl) hG.cell
  exact ⟨p, hG, bArg, sArg, sLong, sIndex, sWord, sSyntax, sDeep, sTwice, sUnknown, sSilent, sUnguarded, sSteps, sStates, sEdges⟩
end Go.Proofs.YtmlmjhmdjieigaaGreatDoor
