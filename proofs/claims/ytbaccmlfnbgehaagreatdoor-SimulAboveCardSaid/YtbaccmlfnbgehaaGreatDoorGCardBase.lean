/-
  Lemmas.
-/
import Derived.Test.YtbaccmlfnbgehaaGreatDoorCards
import Derived.Test.YtbaccmlfnbgehaaGreatDoorTie
import Derived.Test.YtbaccmlfnbgehaaGreatDoorGKit
import Derived.ProofKit
import Derived.OpenShut
import Derived.Deep.DeepHandedRow
import Derived.Deep.DeepWitnessRowRef
import Derived.Lib.LaidIn
import Derived.Stop.LaidErr
import Derived.Lib.SmallJoins
import Derived.Test.YtbaccmlfnbgehaaGreatDoorGRows2
import Derived.LaidHandle
namespace Go.Proofs.YtbaccmlfnbgehaaGreatDoor
open Go.ChangeShapes Go.WideShapes Go.ChangeAt Go.RowKit Go.Lib
theorem ownKnob_none : ownKnob Tryz.prog.godebug = none := by kernel_rfl
theorem prog_laidOut : laidOutB Tryz.prog = true := by kernel_rfl
def sysText : List UInt8 := [97, 32, 115, 121, 115, 116, 101, 109, 32, 116, 104, 97, 116, 32, 105, 115, 32, 110, 111, 110, 101]
noncomputable def laidWorld (os : Os) : World :=
  let N := (World.settled Tryz.prog os).heap.size
  let w0 := World.holding Tryz.prog os ⟨#[.cells #[.string ⟨sysText.toArray⟩] 296], #[], []⟩
  { w0 with heap := w0.heap.modify 15 fun
      | .cells _ t frozen => .cells #[.iface 278 (.pointer (some ⟨N, 0, none⟩))] t frozen
      | o => o }
noncomputable abbrev nBlock : Nat := (World.settled Tryz.prog default).heap.size
theorem star_es : "*" ++ "errors.errorString" = "*errors.errorString" := by decide
theorem row_es (u : TypeId) (h : Tryz.prog.typeName? 3 u = some "*errors.errorString") : u = 278 :=
  typeName_ptr_named (nm := "errors.errorString") (by rw [star_es]; kernel_rfl) (by kernel_rfl) (by decide) u (by rw [star_es]; exact h)
end Go.Proofs.YtbaccmlfnbgehaaGreatDoor
namespace Go.Proofs.YtbaccmlfnbgehaaGreatDoor
open Go.ChangeShapes Go.WideShapes Go.ChangeAt Go.RowKit Go.Lib Go.Deep Pl
theorem cellsInt : Tryz.prog.cellsOf 3 = 1 := by kernel_rfl
theorem cellsEdge : Tryz.prog.cellsOf 71 = 3 := by kernel_rfl
def wfE (x : E) : Prop := (Lit.int .i64 x.1).wf = true ∧ (Lit.int .i64 x.2.1).wf = true ∧ (Lit.int .i64 x.2.2).wf = true
set_option maxRecDepth 100000 in
theorem open_edge {H : Type} {enc : TypeId × Value → H} {W : World} {fuel : Nat} {cs : List Value} {x : DataW H × List MemPlace}
    (h : DataW.trod enc Tryz.prog W 0 (fun _ => true) true fuel 71 cs = some x) : ∃ e : E, cs = encE e ∧ wfE e := by
  obtain ⟨y0, y1, y2, n, _, hl, h0, h1, h2⟩ := trod_struct3 Tryz.underlying71 h
  rw [cellsEdge] at hl
  match cs, hl with
  | [c0, c1, c2], _ =>
    simp only [cellsInt] at h0 h1 h2
    obtain ⟨a0, e0, _, w0⟩ := DataW.trod_int Tryz.underlying3 h0
    obtain ⟨a1, e1, _, w1⟩ := DataW.trod_int Tryz.underlying3 h1
    obtain ⟨a2, e2, _, w2⟩ := DataW.trod_int Tryz.underlying3 h2
    simp at e0 e1 e2
    subst e0 e1 e2
    exact ⟨(a0, a1, a2), rfl, w0, w1, w2⟩
set_option maxRecDepth 100000 in
theorem open_edges {H : Type} {enc : TypeId × Value → H} {W : World} {fuel : Nat} {v : Value} {x : DataW H × List MemPlace}
    (h : DataW.trod enc Tryz.prog W 0 (fun _ => true) true fuel 22 [v] = some x) :
    ∃ (a : Option Addr) (c b off : Nat) (es : List E), v = .slice a es.length c ∧ es.length ≤ maxLen ∧ SlAt encE 3 W a b off es ∧ (∀ y ∈ es, wfE y) ∧ es.length ≤ c ∧ c ≤ maxLen := by
  rcases open_slice Tryz.underlying22 h with ⟨hcs, _⟩ | ⟨ad, len, cap, m, n, D, Pls, hcs, _, hl, hm, hmm, _, hi⟩
  · simp at hcs
    subst hcs
    exact ⟨none, 0, 0, 0, [], rfl, by simp, slAt_nil _ _ _ _, by simp, by simp, by simp⟩
  · simp at hcs
    subst hcs
    simp only [if_true] at hmm
    rw [cellsEdge] at hi
    have hex : ∀ i : Nat, ∃ e : E, i < m → wfE e ∧ ∀ j u, (encE e)[j]? = some u → W.cell? (ad.add (i * 3 + j)) = some u := by
      intro i
      by_cases him : i < m
      · obtain ⟨cs', hc, ht⟩ := hi i him
        obtain ⟨e, rfl, hw⟩ := open_edge ht
        obtain ⟨_, hcl, hat⟩ := World.cells?_some hc
        refine ⟨e, fun _ => ⟨hw, fun j u hu => ?_⟩⟩
        have hj : j < 3 := by have := (List.getElem?_eq_some_iff.1 hu).1; simpa [encE] using this
        rw [← Go.Deep.add_add, hat j hj, hu]
      · exact ⟨(0, 0, 0), fun h => absurd h him⟩
    obtain ⟨f, hf⟩ := Classical.axiomOfChoice hex
    obtain ⟨b, off, spot⟩ := ad
    have hcl : 0 < len → spot = none ∧ b < W.heap.size := by
      intro h0
      have hc0 := (hf 0 (by omega)).2 0 _ rfl
      have hspot : spot = none := by simpa [Addr.add] using World.cell?_spot hc0
      subst hspot
      exact ⟨rfl, World.block_lt_of_cell? _ _ hc0⟩
    refine ⟨some ⟨b, off, spot⟩, cap, b, off, (List.range len).map f, by simp, by simp; omega, ⟨fun hp => ?_, fun hp => (hcl (by simpa using hp)).2, fun i y hy j u hu => ?_⟩, ?_, by simp; omega, by omega⟩
    · obtain ⟨rfl, _⟩ := hcl (by simpa using hp); rfl
    · have hil : i < len := by have := (List.getElem?_eq_some_iff.1 hy).1; simpa using this
      obtain ⟨rfl, _⟩ := hcl (by omega)
      have hy' : y = f i := by simp [hil] at hy; exact hy.symm
      subst hy'
      have := (hf i (by omega)).2 j u hu
      rw [Go.WideShapes.add_plain, ← Nat.add_assoc] at this
      exact this
    · intro y hy
      obtain ⟨i, hi', rfl⟩ := List.mem_map.1 hy
      rw [List.mem_range] at hi'
      exact (hf i (by omega)).1
set_option maxRecDepth 100000 in
theorem open_sys {H : Type} {enc : TypeId × Value → H} {W : World} {r : Reach} {b0 : Nat} {v : Value} {d : DataW H} {p : List MemPlace}
    (hv : Value.okWide Tryz.prog W r b0 24 v) (h : DataW.Trod enc Tryz.prog W 0 (fun _ => true) true 24 v d p) :
    ∃ (s : Lts) (a : Option Addr) (c b off : Nat), v = .agg #[.int .i64 s.st, .int .i64 s.lb, .int .i64 s.s0, .slice a s.es.length c] ∧ s.es.length ≤ maxLen ∧ SlAt encE 3 W a b off s.es ∧
      (∀ y ∈ s.es, wfE y) ∧ (Lit.int .i64 s.st).wf = true ∧ (Lit.int .i64 s.lb).wf = true ∧ (Lit.int .i64 s.s0).wf = true ∧ s.es.length ≤ c ∧ c ≤ maxLen := by
  obtain ⟨v0, v1, v2, v3, y0, y1, y2, y3, n, rfl, _, _, h0, h1, h2, h3⟩ := Go.Joins.open_agg4 Tryz.underlying24 (by kernel_rfl) (by kernel_rfl) hv h
  obtain ⟨a0, e0, _, w0⟩ := DataW.trod_int Tryz.underlying3 h0
  obtain ⟨a1, e1, _, w1⟩ := DataW.trod_int Tryz.underlying3 h1
  obtain ⟨a2, e2, _, w2⟩ := DataW.trod_int Tryz.underlying3 h2
  obtain ⟨a, c, b, off, es, rfl, hl, hS, hw, hc1, hc2⟩ := open_edges h3
  simp at e0 e1 e2
  subst e0 e1 e2
  exact ⟨⟨a0, a1, a2, es⟩, a, c, b, off, rfl, hl, hS, hw, w0, w1, w2, hc1, hc2⟩
end Go.Proofs.YtbaccmlfnbgehaaGreatDoor
namespace Go.Proofs.YtbaccmlfnbgehaaGreatDoor
open Go.ChangeShapes Go.WideShapes Go.ChangeAt Go.RowKit Go.Lib
theorem laidVars_subl {P : Program} {w : World} {l' l : List (String × DataW Unit)} (h : l'.Sublist l) : ∀ {ps : List MemPlace}, DataW.LaidVars P w l ps → ∃ ps', DataW.LaidVars P w l' ps' ∧ ps'.Sublist ps := by
  induction h with
  | slnil => intro ps hv; exact ⟨ps, hv, List.Sublist.refl _⟩
  | cons a _ ih =>
    intro ps hv
    obtain ⟨n, d⟩ := a
    obtain ⟨g, t, cs, fuel, p, q, _, _, _, _, hq, rfl⟩ := hv
    obtain ⟨ps', h1, h2⟩ := ih hq
    exact ⟨ps', h1, h2.trans (List.sublist_append_right _ _)⟩
  | cons_cons a _ ih =>
    intro ps hv
    obtain ⟨n, d⟩ := a
    obtain ⟨g, t, cs, fuel, p, q, h1, h2, h3, h4, hq, rfl⟩ := hv
    obtain ⟨ps', h5, h6⟩ := ih hq
    exact ⟨_, ⟨g, t, cs, fuel, p, ps', h1, h2, h3, h4, h5, rfl⟩, List.Sublist.append (List.Sublist.refl _) h6⟩
theorem laidMet_subl {P : Program} {w : World} {l' l : List (String × DataW Unit)} (hs : l'.Sublist l) (h : laidMet P l w) : laidMet P l' w := by
  obtain ⟨ps, hv, hnd, hrows⟩ := h
  obtain ⟨ps', h1, h2⟩ := laidVars_subl hs hv
  exact ⟨ps', h1, hnd.sublist h2, fun b off hm => hrows b off (h2.subset hm)⟩
theorem gerr_of {n : String} {g : Nat} {text : List UInt8} {W : World} (h : laidMet Tryz.prog [(n, .iface "*errors.errorString" (.ptr (.agg [.lit (.string text)])))] W)
    (hg : Tryz.prog.globalNamed n = some g) (ht : (Tryz.prog.globals[g]?).map (·.type) = some 47) : ∃ p, GErr g p W := by
  obtain ⟨a, s, hv, hc, _, _⟩ := laid_sentinel (g := g) h hg ht Tryz.underlying47 row_es Tryz.underlying278 Tryz.underlying296 rfl rfl Tryz.underlying9 (by kernel_rfl) (by kernel_rfl)
  have hcell := World.var?_cell (g := g) hg hv 0
  have hcell : W.cell? ⟨g, 0, none⟩ = some (.iface 278 (.pointer (some a))) := by simpa using hcell
  exact ⟨a, World.block_lt_of_cell? _ _ hcell, hcell⟩
theorem et_named : Tryz.prog.globalNamed "errors.errorType" = some 21 := by kernel_rfl
theorem et_rt : (Tryz.prog.cutTypes.find? (·.1 == "internal/reflectlite.rtype")).map (·.2) = some 227 := by kernel_rfl
theorem et_rows : ((List.range 308).filter fun t => Tryz.prog.rowNamed t [101, 114, 114, 111, 114]) = [47] := by kernel_rfl
theorem et_size : Tryz.prog.types.size = 308 := by kernel_rfl
theorem errType_of {W : World} (h : handlesMet Tryz.prog [("errors.errorType", Rows.laid_errors_errorType)] W) : ErrType W := by
  obtain ⟨name, u, ty, e1, e2, e3, e4, e5⟩ := h _ (List.mem_singleton.2 rfl)
  have en : name = [101, 114, 114, 111, 114] := (Option.some.inj e1).symm
  subst en
  obtain rfl := Option.some.inj (et_rt.symm.trans e2)
  have hm : ty ∈ (List.range 308).filter fun t => Tryz.prog.rowNamed t [101, 114, 114, 111, 114] := List.mem_filter.2 ⟨List.mem_range.2 (by rw [← et_size]; exact e3), e4⟩
  rw [et_rows] at hm
  obtain rfl := List.mem_singleton.1 hm
  have hh : typeHandle Tryz.prog 47 = .pointer (some ⟨22, 47, none⟩) := by kernel_rfl
  rw [hh] at e5
  exact ⟨by simpa using World.var?_cell et_named e5 0⟩
end Go.Proofs.YtbaccmlfnbgehaaGreatDoor
namespace Go.Proofs.YtbaccmlfnbgehaaGreatDoor
open Go.RowKit Go.Extern.Stop Go.Stop Go.Extern Pl
set_option maxRecDepth 100000 in
theorem is_faultQ_same (pb pc : Nat) (b : Addr) (w : World) (h1 : w.cell? ⟨pb, 3, none⟩ = some (.iface 85 (.pointer (some ⟨pc, 0, none⟩)))) (h2 : w.cell? ⟨pc, 3, none⟩ = some (.iface 278 (.pointer (some b)))) :
    Calls Tryz.prog 105 #[.iface 85 (.pointer (some ⟨pb, 0, none⟩)), .iface 278 (.pointer (some b))] w fun e w' => e = .returned (.bool true) ∧ w = w' := by
  obtain ⟨i, hi, hcmp⟩ := Option.map_eq_some_iff.1 isComp
  obtain ⟨j, hj, hjs⟩ := Option.map_eq_some_iff.1 isSize
  have tT := isTypeOf
  have cT := isComparable
  have mR := isMethodComparable
  have nE := noIsE
  have uE := noUnwrapE
  have vE := noUnwrapsE
  have nW := noIsW
  have uW := hasUnwrapW
  have mU := methodUnwrap
  have heq := run_eql_iface_ptr_same (P := Tryz.prog) w b Tryz.underlying47 Tryz.underlying278 hi hcmp hj
  have hty := run_eql_iface_types (P := Tryz.prog) 85 278 (.pointer (some ⟨pb, 0, none⟩)) (.pointer (some b)) Tryz.underlying47 (by decide) w
  have hty2 := run_eql_iface_types (P := Tryz.prog) 85 278 (.pointer (some ⟨pc, 0, none⟩)) (.pointer (some b)) Tryz.underlying47 (by decide) w
  go_enter Tryz.func105, Tryz.ntmps105
  go_wp2
  refine wp_loop_rounds 3 ?_
  rw [rounds_succ]
  go_wp2
  rw [rounds_succ]
  go_wp2
  rw [rounds_succ]
  go_wp2
  go_ret
  exact ⟨rfl, rfl⟩
set_option maxRecDepth 100000 in
theorem is_faultQ_other (pb pc : Nat) (b a : Addr) (ca cb : Array Value) (ta tb : TypeId) (w : World) (h1 : w.cell? ⟨pb, 3, none⟩ = some (.iface 85 (.pointer (some ⟨pc, 0, none⟩)))) (h2 : w.cell? ⟨pc, 3, none⟩ = some (.iface 278 (.pointer (some a)))) (hne : a ≠ b) (ha : w.heap[a.block]? = some (.cells ca ta (0, 0))) (hb : w.heap[b.block]? = some (.cells cb tb (0, 0))) :
    Calls Tryz.prog 105 #[.iface 85 (.pointer (some ⟨pb, 0, none⟩)), .iface 278 (.pointer (some b))] w fun e w' => e = .returned (.bool false) ∧ w = w' := by
  obtain ⟨i, hi, hcmp⟩ := Option.map_eq_some_iff.1 isComp
  obtain ⟨j, hj, hjs⟩ := Option.map_eq_some_iff.1 isSize
  have tT := isTypeOf
  have cT := isComparable
  have mR := isMethodComparable
  have nE := noIsE
  have uE := noUnwrapE
  have vE := noUnwrapsE
  have nW := noIsW
  have uW := hasUnwrapW
  have mU := methodUnwrap
  have heq := run_eql_iface_ptr_other (P := Tryz.prog) w Tryz.underlying47 Tryz.underlying278 hi hcmp hj (by rw [hjs]; decide) hne ha hb
  have hty := run_eql_iface_types (P := Tryz.prog) 85 278 (.pointer (some ⟨pb, 0, none⟩)) (.pointer (some b)) Tryz.underlying47 (by decide) w
  have hty2 := run_eql_iface_types (P := Tryz.prog) 85 278 (.pointer (some ⟨pc, 0, none⟩)) (.pointer (some b)) Tryz.underlying47 (by decide) w
  go_enter Tryz.func105, Tryz.ntmps105
  go_wp2
  refine wp_loop_rounds 3 ?_
  rw [rounds_succ]
  go_wp2
  rw [rounds_succ]
  go_wp2
  rw [rounds_succ]
  go_wp2
  go_ret
  exact ⟨rfl, rfl⟩
def SentQ (g : Nat) (p : Addr) (w : World) : Prop := ∃ (q : Addr) (c : Array Value) (t : TypeId), GErr g q w ∧ q ≠ p ∧ w.heap[q.block]? = some (.cells c t (0, 0))
theorem SentQ.below {g : Nat} {p : Addr} {w w' : World} (h : SentQ g p w) (hB : Below w.heap.size w w') : SentQ g p w' := by
  obtain ⟨q, c, t, h1, h2, h3⟩ := h
  exact ⟨q, c, t, h1.below hB, h2, by rw [hB.block _ (Array.getElem?_eq_some_iff.1 h3).1]; exact h3⟩
end Go.Proofs.YtbaccmlfnbgehaaGreatDoor
