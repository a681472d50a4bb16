/-
  The frame of the cards of laws that ask api.Code: the world of the witness, all package-level errors, what the row's list gives.
-/
import Derived.Test.YtfjgedninbpjpaaDoorCardSys
import Derived.Test.YtfjgedninbpjpaaDoorCode
import Derived.Stop.LaidTwo
namespace Go.Proofs.YtfjgedninbpjpaaDoor
open Go.ChangeShapes Go.WideShapes Go.ChangeAt Go.RowKit Go.Lib

theorem laidVars_sub {P : Program} {w : World} {l' l : List (String × DataW Unit)} (h : l'.Sublist l) : ∀ {ps : List MemPlace}, DataW.LaidVars P w l ps → ∃ ps', DataW.LaidVars P w l' ps' ∧ ps'.Sublist ps := by
  induction h with
  | slnil => intro ps hv; exact ⟨ps, hv, List.Sublist.refl _⟩
  | cons a _ ih =>
    intro ps hv
    obtain ⟨n, d⟩ := a
    obtain ⟨g, t, cs, fuel, p, q, _, _, _, _, hq, rfl⟩ := hv
    obtain ⟨ps', h1, h2⟩ := ih hq
    exact ⟨ps', h1, h2.trans (List.sublist_append_right _ _)⟩
  | cons_cons a _ ih =>
    intro ps hv
    obtain ⟨n, d⟩ := a
    obtain ⟨g, t, cs, fuel, p, q, h1, h2, h3, h4, hq, rfl⟩ := hv
    obtain ⟨ps', h5, h6⟩ := ih hq
    exact ⟨_, ⟨g, t, cs, fuel, p, ps', h1, h2, h3, h4, h5, rfl⟩, List.Sublist.append (List.Sublist.refl _) h6⟩
theorem laidMet_sub {P : Program} {w : World} {l' l : List (String × DataW Unit)} (hs : l'.Sublist l) (h : laidMet P l w) : laidMet P l' w := by
  obtain ⟨ps, hv, hnd, hrows⟩ := h
  obtain ⟨ps', h1, h2⟩ := laidVars_sub hs hv
  exact ⟨ps', h1, hnd.sublist h2, fun b off hm => hrows b off (h2.subset hm)⟩

/-- What two of the row's list give: the first one is another error than api.ErrSystem. -/
theorem sent_of {n : String} {g : Nat} {text : List UInt8} {W : World} {p : Addr}
    (h : laidMet Tryd.prog [(n, .iface "*errors.errorString" (.ptr (.agg [.lit (.string text)]))), ("semblance/api.ErrSystem", Rows.laid_semblance_api_ErrSystem)] W)
    (hg : Tryd.prog.globalNamed n = some g) (ht : (Tryd.prog.globals[g]?).map (·.type) = some 31) (hc : W.cell? ⟨0, 0, none⟩ = some (.iface 210 (.pointer (some p)))) :
    Sent g p W ∧ ∃ c t, W.heap[p.block]? = some (.cells c t (0, 0)) := by
  obtain ⟨a0, a1, s0, s1, c0, c1, t0, t1, hv0, hv1, _, _, _, _, _, _, hne, hb0, hb1⟩ := laid_sentinels2 (g1 := 0) h hg ht (by kernel_rfl) (by kernel_rfl) Tryd.underlying31 row_es Tryd.underlying210 Tryd.underlying231 rfl rfl Tryd.underlying9 (by kernel_rfl) (by kernel_rfl)
  have hcell0 := World.var?_cell (g := g) hg hv0 0
  have hcell0 : W.cell? ⟨g, 0, none⟩ = some (.iface 210 (.pointer (some a0))) := by simpa using hcell0
  have hcell1 := World.var?_cell (g := 0) (by kernel_rfl) hv1 0
  have hcell1 : W.cell? ⟨0, 0, none⟩ = some (.iface 210 (.pointer (some a1))) := by simpa using hcell1
  rw [hc] at hcell1
  simp only [Option.some.injEq, Value.iface.injEq, Value.pointer.injEq, true_and] at hcell1
  subst hcell1
  exact ⟨⟨a0, c0, t0, ⟨World.block_lt_of_cell? _ _ hcell0, hcell0⟩, hne, hb0⟩, c1, t1, hb1⟩

/-- The row's list of all errors. -/
def allErrs : List (String × DataW Unit) := [("semblance/api.ErrArg", Rows.laid_semblance_api_ErrArg), ("semblance/api.ErrLong", Rows.laid_semblance_api_ErrLong), ("semblance/api.ErrIndex", Rows.laid_semblance_api_ErrIndex), ("semblance/api.ErrWord", Rows.laid_semblance_api_ErrWord), ("semblance/api.ErrSyntax", Rows.laid_semblance_api_ErrSyntax), ("semblance/api.ErrDeep", Rows.laid_semblance_api_ErrDeep), ("semblance/api.ErrTwice", Rows.laid_semblance_api_ErrTwice), ("semblance/api.ErrUnknown", Rows.laid_semblance_api_ErrUnknown), ("semblance/api.ErrSilent", Rows.laid_semblance_api_ErrSilent), ("semblance/api.ErrUnguarded", Rows.laid_semblance_api_ErrUnguarded), ("semblance/api.ErrSteps", Rows.laid_semblance_api_ErrSteps), ("semblance/api.ErrStates", Rows.laid_semblance_api_ErrStates), ("semblance/api.ErrEdges", Rows.laid_semblance_api_ErrEdges), ("semblance/api.ErrSystem", Rows.laid_semblance_api_ErrSystem), ("semblance/api.ErrClasses", Rows.laid_semblance_api_ErrClasses), ("semblance/api.ErrFormula", Rows.laid_semblance_api_ErrFormula), ("semblance/api.ErrLimit", Rows.laid_semblance_api_ErrLimit), ("semblance/api.ErrNone", Rows.laid_semblance_api_ErrNone), ("semblance/api.ErrScript", Rows.laid_semblance_api_ErrScript)]

theorem errs_of {W : World} (h : laidMet Tryd.prog allErrs W) : ∃ p, Errs p W := by
  obtain ⟨p, hG⟩ := gerr_sys (r := []) (laidMet_sub (.cons _ (.cons _ (.cons _ (.cons _ (.cons _ (.cons _ (.cons _ (.cons _ (.cons _ (.cons _ (.cons _ (.cons _ (.cons _ (.cons_cons _ (List.nil_sublist _))))))))))))))) h)
  obtain ⟨sArg, bArg⟩ := sent_of (n := "semblance/api.ErrArg") (g := 1) (laidMet_sub (.cons_cons _ (.cons _ (.cons _ (.cons _ (.cons _ (.cons _ (.cons _ (.cons _ (.cons _ (.cons _ (.cons _ (.cons _ (.cons _ (.cons_cons _ (List.nil_sublist _))))))))))))))) h) (by kernel_rfl) (by kernel_rfl) hG.cell
  obtain ⟨sLong, bLong⟩ := sent_of (n := "semblance/api.ErrLong") (g := 2) (laidMet_sub (.cons _ (.cons_cons _ (.cons _ (.cons _ (.cons _ (.cons _ (.cons _ (.cons _ (.cons _ (.cons _ (.cons _ (.cons _ (.cons _ (.cons_cons _ (List.nil_sublist _))))))))))))))) h) (by kernel_rfl) (by kernel_rfl) hG.cell
  obtain ⟨sIndex, bIndex⟩ := sent_of (n := "semblance/api.ErrIndex") (g := 3) (laidMet_sub (.cons _ (.cons _ (.cons_cons _ (.cons _ (.cons _ (.cons _ (.cons _ (.cons _ (.cons _ (.cons _ (.cons _ (.cons _ (.cons _ (.cons_cons _ (List.nil_sublist _))))))))))))))) h) (by kernel_rfl) (by kernel_rfl) hG.cell
  obtain ⟨sWord, bWord⟩ := sent_of (n := "semblance/api.ErrWord") (g := 4) (laidMet_sub (.cons _ (.cons _ (.cons _ (.cons_cons _ (.cons _ (.cons _ (.cons _ (.cons _ (.cons _ (.cons _ (.cons _ (.cons _ (.cons _ (.cons_cons _ (List.nil_sublist _))))))))))))))) h) (by kernel_rfl) (by kernel_rfl) hG.cell
  obtain ⟨sSyntax, bSyntax⟩ := sent_of (n := "semblance/api.ErrSyntax") (g := 5) (laidMet_sub (.cons _ (.cons _ (.cons _ (.cons _ (.cons_cons _ (.cons _ (.cons _ (.cons _ (.cons _ (.cons _ (.cons _ (.cons _ (.cons _ (.cons_cons _ (List.nil_sublist _))))))))))))))) h) (by kernel_rfl) (by kernel_rfl) hG.cell
  obtain ⟨sDeep, bDeep⟩ := sent_of (n := "semblance/api.ErrDeep") (g := 6) (laidMet_sub (.cons _ (.cons _ (.cons _ (.cons _ (.cons _ (.cons_cons _ (.cons _ (.cons _ (.cons _ (.cons _ (.cons _ (.cons _ (.cons _ (.cons_cons _ (List.nil_sublist _))))))))))))))) h) (by kernel_rfl) (by kernel_rfl) hG.cell
  obtain ⟨sTwice, bTwice⟩ := sent_of (n := "semblance/api.ErrTwice") (g := 7) (laidMet_sub (.cons _ (.cons _ (.cons _ (.cons _ (.cons _ (.cons _ (.cons_cons _ (.cons _ (.cons _ (.cons _ (.cons _ (.cons _ (.cons _ (.cons_cons _ (List.nil_sublist _))))))))))))))) h) (by kernel_rfl) (by kernel_rfl) hG.cell
  obtain ⟨sUnknown, bUnknown⟩ := sent_of (n := "semblance/api.ErrUnknown") (g := 8) (laidMet_sub (.cons _ (.cons _ (.cons _ (.cons _ (.cons _ (.cons _ (.cons _ (.cons_cons _ (.cons _ (.cons _ (.cons _ (.cons _ (.cons _ (.cons_cons _ (List.nil_sublist _))))))))))))))) h) (by kernel_rfl) (by kernel_rfl) hG.cell
  obtain ⟨sSilent, bSilent⟩ := sent_of (n := "semblance/api.ErrSilent") (g := 9) (laidMet_sub (.cons _ (.cons _ (.cons _ (.cons _ (.cons _ (.cons _ (.cons _ (.cons _ (.cons_cons _ (.cons _ (.cons _ (.cons _ (.cons _ (.cons_cons _ (List.nil_sublist _))))))))))))))) h) (by kernel_rfl) (by kernel_rfl) hG.cell
  obtain ⟨sUnguarded, bUnguarded⟩ := sent_of (n := "semblance/api.ErrUnguarded") (g := 10) (laidMet_sub (.cons _ (.cons _ (.cons _ (.cons _ (.cons _ (.cons _ (.cons _ (.cons _ (.cons _ (.cons_cons _ (.cons _ (.cons _ (.cons _ (.cons_cons _ (List.nil_sublist _))))))))))))))) h) (by kernel_rfl) (by kernel_rfl) hG.cell
  obtain ⟨sSteps, bSteps⟩ := sent_of (n := "semblance/api.ErrSteps") (g := 12) (laidMet_sub (.cons _ (.cons _ (.cons _ (.cons _ (.cons _ (.cons _ (.cons _ (.cons _ (.cons _ (.cons _ (.cons_cons _ (.cons _ (.cons _ (.cons_cons _ (List.nil_sublist _))))))))))))))) h) (by kernel_rfl) (by kernel_rfl) hG.cell
  obtain ⟨sStates, bStates⟩ := sent_of (n := "semblance/api.ErrStates") (g := 13) (laidMet_sub (.cons _ (.cons _ (.cons _ (.cons _ (.cons _ (.cons _ (.cons _ (.cons _ (.cons _ (.cons _ (.cons _ (.cons_cons _ (.cons _ (.cons_cons _ (List.nil_sublist _))))))))))))))) h) (by kernel_rfl) (by kernel_rfl) hG.cell
  obtain ⟨sEdges, bEdges⟩ := sent_of (n := "semblance/api.ErrEdges") (g := 14) (laidMet_sub (.cons _ (.cons _ (.cons _ (.cons _ (.cons _ (.cons _ (.cons _ (.cons _ (.cons _ (.cons _ (.cons _ (.cons _ (.cons_cons _ (.cons_cons _ (List.nil_sublist _))))))))))))))) h) (by kernel_rfl) (by kernel_rfl) hG.cell
  exact ⟨p, hG, bArg, sArg, sLong, sIndex, sWord, sSyntax, sDeep, sTwice, sUnknown, sSilent, sUnguarded, sSteps, sStates, sEdges⟩

/-- A WORLD FOR THE WITN210S: the settled one, a block more for each error; each variable holding its pointer. -/
noncomputable def laidWorldE (os : Os) : World :=
  let N := (World.settled Tryd.prog os).heap.size
  let w0 := World.holding Tryd.prog os ⟨#[.cells #[.string ⟨([97, 110, 32, 97, 114, 103, 117, 109, 101, 110, 116, 32, 116, 104, 97, 116, 32, 99, 97, 110, 39, 116, 32, 98, 101] : List UInt8).toArray⟩] 231, .cells #[.string ⟨([116, 111, 111, 32, 108, 111, 110, 103, 44, 32, 111, 114, 32, 116, 111, 111, 32, 109, 97, 110, 121] : List UInt8).toArray⟩] 231, .cells #[.string ⟨([97, 32, 110, 117, 109, 98, 101, 114, 32, 116, 104, 97, 116, 32, 105, 115, 32, 110, 111, 116, 32, 116, 104, 101, 114, 101] : List UInt8).toArray⟩] 231, .cells #[.string ⟨([97, 32, 99, 104, 97, 114, 97, 99, 116, 101, 114, 32, 116, 104, 97, 116, 32, 98, 101, 103, 105, 110, 115, 32, 110, 111, 32, 119, 111, 114, 100] : List UInt8).toArray⟩] 231, .cells #[.string ⟨([97, 32, 119, 111, 114, 100, 32, 116, 104, 97, 116, 32, 99, 97, 110, 39, 116, 32, 115, 116, 97, 110, 100, 32, 116, 104, 101, 114, 101] : List UInt8).toArray⟩] 231, .cells #[.string ⟨([98, 114, 97, 99, 107, 101, 116, 115, 32, 116, 104, 97, 116, 32, 115, 116, 97, 110, 100, 32, 116, 111, 111, 32, 100, 101, 101, 112] : List UInt8).toArray⟩] 231, .cells #[.string ⟨([115, 111, 109, 101, 116, 104, 105, 110, 103, 32, 116, 104, 97, 116, 32, 115, 116, 97, 110, 100, 115, 32, 116, 104, 101, 114, 101, 32, 97, 108, 114, 101, 97, 100, 121] : List UInt8).toArray⟩] 231, .cells #[.string ⟨([97, 32, 110, 97, 109, 101, 32, 116, 104, 97, 116, 32, 105, 115, 32, 110, 111, 116, 32, 116, 104, 101, 114, 101] : List UInt8).toArray⟩] 231, .cells #[.string ⟨([116, 104, 101, 32, 115, 105, 108, 101, 110, 116, 32, 97, 99, 116, 105, 111, 110, 44, 32, 119, 104, 101, 114, 101, 32, 105, 116, 32, 99, 97, 110, 39, 116, 32, 115, 116, 97, 110, 100] : List UInt8).toArray⟩] 231, .cells #[.string ⟨([97, 32, 99, 111, 110, 115, 116, 97, 110, 116, 32, 116, 104, 97, 116, 32, 110, 101, 101, 100, 115, 32, 105, 116, 115, 101, 108, 102, 32, 102, 105, 114, 115, 116] : List UInt8).toArray⟩] 231, .cells #[.string ⟨([97, 32, 116, 101, 114, 109, 32, 119, 105, 116, 104, 32, 116, 111, 111, 32, 109, 97, 110, 121, 32, 115, 116, 101, 112, 115] : List UInt8).toArray⟩] 231, .cells #[.string ⟨([116, 111, 111, 32, 109, 97, 110, 121, 32, 115, 116, 97, 116, 101, 115] : List UInt8).toArray⟩] 231, .cells #[.string ⟨([116, 111, 111, 32, 109, 97, 110, 121, 32, 101, 100, 103, 101, 115] : List UInt8).toArray⟩] 231, .cells #[.string ⟨([97, 32, 115, 121, 115, 116, 101, 109, 32, 116, 104, 97, 116, 32, 105, 115, 32, 110, 111, 110, 101] : List UInt8).toArray⟩] 231, .cells #[.string ⟨([99, 108, 97, 115, 115, 101, 115, 32, 116, 104, 97, 116, 32, 97, 114, 101, 32, 110, 111, 110, 101] : List UInt8).toArray⟩] 231, .cells #[.string ⟨([97, 32, 102, 111, 114, 109, 117, 108, 97, 32, 116, 104, 97, 116, 32, 105, 115, 32, 110, 111, 110, 101] : List UInt8).toArray⟩] 231, .cells #[.string ⟨([97, 32, 102, 111, 114, 109, 117, 108, 97, 32, 116, 104, 97, 116, 32, 119, 111, 117, 108, 100, 32, 98, 101, 32, 116, 111, 111, 32, 103, 114, 101, 97, 116] : List UInt8).toArray⟩] 231, .cells #[.string ⟨([116, 104, 101, 114, 101, 32, 105, 115, 32, 110, 111, 110, 101] : List UInt8).toArray⟩] 231, .cells #[.string ⟨([97, 32, 115, 99, 114, 105, 112, 116, 32, 116, 104, 97, 116, 32, 105, 115, 32, 110, 111, 110, 101] : List UInt8).toArray⟩] 231], #[], []⟩
  let put := fun (h : Array Obj) (g k : Nat) => h.modify g fun
      | .cells _ t frozen => .cells #[.iface 210 (.pointer (some ⟨N + k, 0, none⟩))] t frozen
      | o => o
  { w0 with heap := put (put (put (put (put (put (put (put (put (put (put (put (put (put (put (put (put (put (put (w0.heap) 1 0) 2 1) 3 2) 4 3) 5 4) 6 5) 7 6) 8 7) 9 8) 10 9) 12 10) 13 11) 14 12) 0 13) 11 14) 15 15) 16 16) 17 17) 18 18 }
theorem laidIn_errs (os : Os) (args : Array Value) : LaidIn Tryd.prog ((laidWorldE os).forCall (fun _ _ => 0) ⟨#[], args, []⟩).memory allErrs [1, 2, 3, 4, 5, 6, 7, 8, 9, 10, 12, 13, 14, 0, 11, 15, 16, 17, 18, nBlock, nBlock + 1, nBlock + 2, nBlock + 3, nBlock + 4, nBlock + 5, nBlock + 6, nBlock + 7, nBlock + 8, nBlock + 9, nBlock + 10, nBlock + 11, nBlock + 12, nBlock + 13, nBlock + 14, nBlock + 15, nBlock + 16, nBlock + 17, nBlock + 18] :=
  LaidIn.of_run [1, 2, 3, 4, 5, 6, 7, 8, 9, 10, 12, 13, 14, 0, 11, 15, 16, 17, 18, nBlock, nBlock + 1, nBlock + 2, nBlock + 3, nBlock + 4, nBlock + 5, nBlock + 6, nBlock + 7, nBlock + 8, nBlock + 9, nBlock + 10, nBlock + 11, nBlock + 12, nBlock + 13, nBlock + 14, nBlock + 15, nBlock + 16, nBlock + 17, nBlock + 18] 8 (by kernel_rfl) (by kernel_rfl) (by kernel_rfl) (by kernel_rfl)
theorem laid_metE (os : Os) (args : Array Value) : laidMet Tryd.prog allErrs ((laidWorldE os).forCall (fun _ _ => 0) ⟨#[], args, []⟩).memory :=
  (laidIn_errs os args).met
end Go.Proofs.YtfjgedninbpjpaaDoor
