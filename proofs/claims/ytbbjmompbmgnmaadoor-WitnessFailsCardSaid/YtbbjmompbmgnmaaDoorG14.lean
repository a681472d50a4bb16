/-
  What a row's list of package-level variables gives: a sentinel, the handle of 'error'.
  What the list errorType, ErrSystem, ErrClasses of a row gives; a world for the witness.
  system.with: where steps of a label lead.
-/
import Derived.Test.YtbbjmompbmgnmaaDoorG13
import Derived.Test.YtbbjmompbmgnmaaDoorAs
import Derived.LaidHandle
import Derived.Test.YtbbjmompbmgnmaaDoorG9
namespace Go.Proofs.YtbbjmompbmgnmaaDoor
open Go.ChangeShapes Go.WideShapes Go.ChangeAt Go.RowKit Go.Lib

theorem laidVars_subl {P : Program} {w : World} {l' l : List (String × DataW Unit)} (h : l'.Sublist l) : ∀ {ps : List MemPlace}, DataW.LaidVars P w l ps → ∃ ps', DataW.LaidVars P w l' ps' ∧ ps'.Sublist ps := by
  induction h with
  | slnil => intro ps hv; exact ⟨ps, hv, List.Sublist.refl _⟩
  | cons a _ ih =>
    intro ps hv
    obtain ⟨n, d⟩ := a
    obtain ⟨g, t, cs, fuel, p, q, _, _, _, _, hq, rfl⟩ := hv
    obtain ⟨ps', h1, h2⟩ := ih hq
    exact ⟨ps', h1, h2.trans (List.sublist_append_right _ _)⟩
  | cons_cons a _ ih =>
    intro ps hv
    obtain ⟨n, d⟩ := a
    obtain ⟨g, t, cs, fuel, p, q, h1, h2, h3, h4, hq, rfl⟩ := hv
    obtain ⟨ps', h5, h6⟩ := ih hq
    exact ⟨_, ⟨g, t, cs, fuel, p, ps', h1, h2, h3, h4, h5, rfl⟩, List.Sublist.append (List.Sublist.refl _) h6⟩
theorem laidMet_subl {P : Program} {w : World} {l' l : List (String × DataW Unit)} (hs : l'.Sublist l) (h : laidMet P l w) : laidMet P l' w := by
  obtain ⟨ps, hv, hnd, hrows⟩ := h
  obtain ⟨ps', h1, h2⟩ := laidVars_subl hs hv
  exact ⟨ps', h1, hnd.sublist h2, fun b off hm => hrows b off (h2.subset hm)⟩

/-- A sentinel: its variable holds a pointer. -/
theorem gerr_of {n : String} {g : Nat} {text : List UInt8} {W : World} (h : laidMet Tryd.prog [(n, .iface "*errors.errorString" (.ptr (.agg [.lit (.string text)])))] W)
    (hg : Tryd.prog.globalNamed n = some g) (ht : (Tryd.prog.globals[g]?).map (·.type) = some 31) : ∃ p, GErr g p W := by
  obtain ⟨a, s, hv, hc, _, _⟩ := laid_sentinel (g := g) h hg ht Tryd.underlying31 row_es Tryd.underlying208 Tryd.underlying229 rfl rfl Tryd.underlying9 (by kernel_rfl) (by kernel_rfl)
  have hcell := World.var?_cell (g := g) hg hv 0
  have hcell : W.cell? ⟨g, 0, none⟩ = some (.iface 208 (.pointer (some a))) := by simpa using hcell
  exact ⟨a, World.block_lt_of_cell? _ _ hcell, hcell⟩

theorem et_named : Tryd.prog.globalNamed "errors.errorType" = some 5 := by kernel_rfl
theorem et_rt : (Tryd.prog.cutTypes.find? (·.1 == "internal/reflectlite.rtype")).map (·.2) = some 132 := by kernel_rfl
theorem et_rows : ((List.range 241).filter fun t => Tryd.prog.rowNamed t [101, 114, 114, 111, 114]) = [31] := by kernel_rfl
theorem et_size : Tryd.prog.types.size = 241 := by kernel_rfl

/-- The handle of 'error'. -/
theorem errType_of {W : World} (h : handlesMet Tryd.prog [("errors.errorType", Rows.laid_errors_errorType)] W) : ErrType W := by
  obtain ⟨name, u, ty, e1, e2, e3, e4, e5⟩ := h _ (List.mem_singleton.2 rfl)
  have en : name = [101, 114, 114, 111, 114] := (Option.some.inj e1).symm
  subst en
  obtain rfl := Option.some.inj (et_rt.symm.trans e2)
  have hm : ty ∈ (List.range 241).filter fun t => Tryd.prog.rowNamed t [101, 114, 114, 111, 114] := List.mem_filter.2 ⟨List.mem_range.2 (by rw [← et_size]; exact e3), e4⟩
  rw [et_rows] at hm
  obtain rfl := List.mem_singleton.1 hm
  have hh : typeHandle Tryd.prog 31 = .pointer (some ⟨6, 31, none⟩) := by kernel_rfl
  rw [hh] at e5
  exact ⟨by simpa using World.var?_cell et_named e5 0⟩
end Go.Proofs.YtbbjmompbmgnmaaDoor

namespace Go.Proofs.YtbbjmompbmgnmaaDoor
open Go.ChangeShapes Go.WideShapes Go.ChangeAt Go.RowKit Go.Lib

def laidWit : List (String × DataW Unit) := [("errors.errorType", Rows.laid_errors_errorType), ("semblance/api.ErrSystem", Rows.laid_semblance_api_ErrSystem), ("semblance/api.ErrClasses", Rows.laid_semblance_api_ErrClasses)]
noncomputable def laidWorldWit (os : Os) : World :=
  let N := (World.settled Tryd.prog os).heap.size
  let w0 := World.holding Tryd.prog os ⟨#[.cells #[.string ⟨([97, 32, 115, 121, 115, 116, 101, 109, 32, 116, 104, 97, 116, 32, 105, 115, 32, 110, 111, 110, 101] : List UInt8).toArray⟩] 229, .cells #[.string ⟨([99, 108, 97, 115, 115, 101, 115, 32, 116, 104, 97, 116, 32, 97, 114, 101, 32, 110, 111, 110, 101] : List UInt8).toArray⟩] 229], #[], []⟩
  let put := fun (h : Array Obj) (g : Nat) (cs : Array Value) => h.modify g fun
      | .cells _ t frozen => .cells cs t frozen
      | o => o
  { w0 with heap := put (put (put (w0.heap) 5 #[.iface 132 (.agg #[.pointer (some ⟨6, 31, none⟩)])]) 0 #[.iface 208 (.pointer (some ⟨N + 0, 0, none⟩))]) 1 #[.iface 208 (.pointer (some ⟨N + 1, 0, none⟩))] }
theorem laidInWit (os : Os) (args : Array Value) : LaidIn Tryd.prog ((laidWorldWit os).forCall (fun _ _ => 0) ⟨#[], args, []⟩).memory [("semblance/api.ErrSystem", Rows.laid_semblance_api_ErrSystem), ("semblance/api.ErrClasses", Rows.laid_semblance_api_ErrClasses)] [0, 1, nBlock + 0, nBlock + 1] :=
  LaidIn.of_run [0, 1, nBlock + 0, nBlock + 1] 8 (by kernel_rfl) (by kernel_rfl) (by kernel_rfl) (by kernel_rfl)
theorem laid_metWit (os : Os) (args : Array Value) : laidMetH Tryd.prog laidWit ((laidWorldWit os).forCall (fun _ _ => 0) ⟨#[], args, []⟩).memory :=
  laidMetH_of_parts (laidInWit os args).met (by kernel_rfl)
theorem laidWit_data {W : World} (h : laidMetH Tryd.prog laidWit W) : laidMet Tryd.prog [("semblance/api.ErrSystem", Rows.laid_semblance_api_ErrSystem), ("semblance/api.ErrClasses", Rows.laid_semblance_api_ErrClasses)] W := (show laidMet Tryd.prog [("semblance/api.ErrSystem", Rows.laid_semblance_api_ErrSystem), ("semblance/api.ErrClasses", Rows.laid_semblance_api_ErrClasses)] W ∧ handlesMet Tryd.prog [("errors.errorType", Rows.laid_errors_errorType)] W from h).1
theorem laidWit_errType {W : World} (h : laidMetH Tryd.prog laidWit W) : ErrType W := errType_of (show laidMet Tryd.prog [("semblance/api.ErrSystem", Rows.laid_semblance_api_ErrSystem), ("semblance/api.ErrClasses", Rows.laid_semblance_api_ErrClasses)] W ∧ handlesMet Tryd.prog [("errors.errorType", Rows.laid_errors_errorType)] W from h).2
theorem laidWit_ErrSystem {W : World} (h : laidMetH Tryd.prog laidWit W) : ∃ p, GErr 0 p W := gerr_of (n := "semblance/api.ErrSystem") (laidMet_subl (.cons_cons _ (List.nil_sublist _)) (laidWit_data h)) (by kernel_rfl) (by kernel_rfl)
theorem laidWit_ErrClasses {W : World} (h : laidMetH Tryd.prog laidWit W) : ∃ p, GErr 1 p W := gerr_of (n := "semblance/api.ErrClasses") (laidMet_subl (.cons _ (.cons_cons _ (List.nil_sublist _))) (laidWit_data h)) (by kernel_rfl) (by kernel_rfl)
end Go.Proofs.YtbbjmompbmgnmaaDoor

namespace Go.Proofs.YtbbjmompbmgnmaaDoor
open Go.RowKit Pl

def fil (label : Int) (ss : List S) : List Value := (ss.filter (fun s => s.1 == label)).map fun s => .int .i64 s.2
theorem fil_snoc (label : Int) (ss : List S) (k : Nat) (h : k < ss.length) : fil label (ss.take (k+1)) = fil label (ss.take k) ++ (if (ss.getD k (0,0)).1 == label then [.int .i64 (ss.getD k (0,0)).2] else []) := by
  rw [List.take_succ_eq_append_getElem h]
  unfold fil
  rw [List.filter_append, List.map_append]
  simp only [List.getD, List.getElem?_eq_getElem h, Option.getD_some]
  by_cases hx : (ss[k].1 == label) = true <;> simp [List.filter, hx]
theorem fil_le (label : Int) (ss : List S) (k : Nat) : (fil label (ss.take k)).length ≤ ss.length := by
  unfold fil; rw [List.length_map]; exact Nat.le_trans (List.length_filter_le _ _) (by simp; omega)

set_option maxRecDepth 100000 in
theorem with_any (a : Option Addr) (b off c : Nat) (ss : List S) (label : Int) (w : World) (hlen : ss.length ≤ 20000)
    (ha : 0 < ss.length → a = some ⟨b, off, none⟩) (hb : b < w.heap.size)
    (h0 : ∀ i, i < ss.length → w.cell? ⟨b, off + i * 2, none⟩ = some (.int .i64 (ss.getD i (0,0)).1))
    (h1 : ∀ i, i < ss.length → w.cell? ⟨b, off + i * 2 + 1, none⟩ = some (.int .i64 (ss.getD i (0,0)).2)) :
    Calls Tryd.prog 58 #[.slice a ss.length c, .int .i64 label] w fun e w' =>
      ∃ v, e = .returned v ∧ w'.ownsRow w.heap.size 3 1 v ((fil label ss).length) (fil label ss) ∧ Below w.heap.size w w' := by
  go_enter Tryd.func58, Tryd.ntmps58
  go_wp2
  go_loopw [5, 10] (fun v i wr => ∃ k : Nat, k ≤ ss.length ∧ i = .int .i64 k ∧ wr.ownsRow w.heap.size 3 1 v ((fil label (ss.take k)).length) (fil label (ss.take k)) ∧ Below w.heap.size w wr)
    (fun _ i _ => ss.length - (intOf i).toNat)
  case atStart => exact ⟨0, Nat.zero_le _, rfl, World.ownsRow_nil _ _ _ _, Below.refl _ _⟩
  case round =>
    obtain ⟨k, hk, rfl, hown, hnx⟩ := hrel
    by_cases hlt : k < ss.length
    · obtain rfl := ha (by omega)
      have hs := fil_snoc label ss k hlt
      obtain ⟨x, hx⟩ : ∃ x, x = ss.getD k (0,0) := ⟨_, rfl⟩
      have hc0 : wr.cell? ⟨b, off + k * 2, none⟩ = some (.int .i64 x.1) := by rw [hx]; exact (hnx.cell (by exact hb)).trans (h0 k hlt)
      have hc1 : wr.cell? ⟨b, off + k * 2 + 1, none⟩ = some (.int .i64 x.2) := by rw [hx]; exact (hnx.cell (by exact hb)).trans (h1 k hlt)
      have hbr : b < wr.heap.size := Nat.lt_of_lt_of_le hb hnx.size
      rw [← hx] at hs
      have hle := fil_le label ss k
      have hsz := hnx.size
      clear h0 h1 hx ha
      generalize fil label (ss.take k) = f at *
      by_cases hxl : (x.1 == label) = true
      · rw [if_pos hxl] at hs
        have HS := Lib.hid hs; clear hs
        go_wp2_with (at_builtin; refine wpList_app rfl _ _ _ rfl rowI ((hnx.alloc hsz _).alloc (by simp; omega) _) (by simp; omega) rfl ((hown.alloc _).alloc _) ⟨wr.heap.size + 1, 0, none⟩ 1 1 [.int .i64 x.2] rfl rfl (cells1 (by simp [go_sem])) (by simp [Value.oneCell']) (by omega) (by unfold maxLen; omega) ?_; intro v' w1 hown1 hb1 _)
        clear hown hnx
        go_roundw
        case rel => exact ⟨k + 1, by omega, by go_num, by rw [HS.out]; simpa using hown1, hb1⟩
        case measure => simp [intOf]; omega
      · rw [if_neg hxl] at hs
        have hxl' : (x.1 == label) = false := by simpa using hxl
        have HS := Lib.hid hs; clear hs
        clear hxl
        go_wp2
        go_roundw
        case rel => exact ⟨k + 1, by omega, by go_num, by rw [HS.out]; simpa using hown.alloc _, hnx.alloc hsz _⟩
        case measure => simp [intOf]; omega
    · clear h0 h1 ha
      go_wp2
      go_ret
      have : k = ss.length := by omega
      subst this
      exact ⟨_, rfl, by simpa using hown, hnx⟩

set_option maxRecDepth 100000 in
theorem with_nil (a : Option Addr) (c : Nat) (label : Int) (w : World) :
    Calls Tryd.prog 58 #[.slice a 0 c, .int .i64 label] w fun e w' =>
      ∃ v, e = .returned v ∧ w'.ownsRow w.heap.size 3 1 v 0 [] ∧ Below w.heap.size w w' := by
  go_enter Tryd.func58, Tryd.ntmps58
  go_wp2
  refine wp_loop_rounds 1 ?_
  rw [rounds_succ]
  go_wp2
  go_ret
  exact ⟨_, rfl, World.ownsRow_nil _ _ _ _, Below.refl _ _⟩

theorem fil_flat (label : Int) (ss : List S) : fil label ss = (((ss.filter (fun s => s.1 == label)).map fun s => s.2)).flatMap encI := by
  unfold fil
  rw [List.flatMap_map]
  induction (ss.filter (fun s => s.1 == label)) with
  | nil => rfl
  | cons x l ih => simp [ih, encI]

/-- Where steps of a label lead. -/
def withL (label : Int) (ss : List S) : List Int := (ss.filter (fun s => s.1 == label)).map fun s => s.2

theorem with_sl {a : Option Addr} {b off c : Nat} {ss : List S} {w : World} (h : SlAt encS 2 w a b off ss) (hlen : ss.length ≤ 20000) (label : Int) :
    Calls Tryd.prog 58 #[.slice a ss.length c, .int .i64 label] w fun e w' =>
      ∃ v, e = .returned v ∧ w'.ownsRow w.heap.size 3 1 v (withL label ss).length ((withL label ss).flatMap encI) ∧ Below w.heap.size w w' := by
  by_cases h0 : 0 < ss.length
  · refine (with_any a b off c ss label w hlen h.ad (h.lt h0) (fun i hi => ?_) (fun i hi => ?_)).mono ?_
    · obtain ⟨x, hx⟩ := getElem?_of_lt hi
      rw [List.getD, hx]; exact h.s0 hx
    · obtain ⟨x, hx⟩ := getElem?_of_lt hi
      rw [List.getD, hx]; exact h.s1 hx
    · rintro e w' ⟨v, rfl, ho, hB⟩
      rw [fil_flat] at ho
      refine ⟨v, rfl, ?_, hB⟩
      have hl : (withL label ss).length = ((withL label ss).flatMap encI).length := by rw [length_flatMap lenI]; omega
      unfold withL at *
      rw [hl]; exact ho
  · have hz : ss = [] := List.eq_nil_of_length_eq_zero (by omega)
    subst hz
    exact with_nil a c label w

end Go.Proofs.YtbbjmompbmgnmaaDoor
