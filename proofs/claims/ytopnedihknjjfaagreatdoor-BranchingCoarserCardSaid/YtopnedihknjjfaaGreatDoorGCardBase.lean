/-
  The frame of the cards: the world of the witness, the package-level error, how arguments open.
  How an api.System that came in opens: three numbers and a list of edges.
  What a row's list of package-level variables gives: a sentinel, the handle of 'error'.
  What the list deBruijn32tab, deBruijn64tab, uint64pow10, errorType, ErrArg, ErrIndex, ErrSystem, ErrClasses of a row gives; a world for the witness.
  A row of lists of numbers that grow one by one, all of them rows of the call's own.
  refine.Partition in memory: its struct, its elements, their places, the block of each, the blocks.
  refine.Partition: own, asked, Size, Blocks, Block, row, First, Len.
  refine.Partition: swap, Mark.
-/
import Derived.Test.YtopnedihknjjfaaGreatDoorCards
import Derived.Test.YtopnedihknjjfaaGreatDoorTie
import Derived.Test.YtopnedihknjjfaaGreatDoorGFault
import Derived.ProofKit
import Derived.OpenShut
import Derived.Deep.DeepHandedRow
import Derived.Deep.DeepWitnessRowRef
import Derived.Lib.LaidIn
import Derived.Stop.LaidErr
import Derived.Lib.SmallJoins
import Derived.Test.YtopnedihknjjfaaGreatDoorAs
import Derived.LaidHandle
import Derived.Lib.LaidTab
import Derived.Lib.ItoaNum
import Derived.Test.YtopnedihknjjfaaGreatDoorGKeyS
import Derived.Test.YtopnedihknjjfaaGreatDoorGPl10
import Derived.Test.YtopnedihknjjfaaGreatDoorGPlU
import Derived.BigRegion
import Derived.Deep.QuietTactic
import Derived.BigQuiet
import Derived.IntWalk
import Derived.Outline
namespace Go.Proofs.YtopnedihknjjfaaGreatDoor
open Go.ChangeShapes Go.WideShapes Go.ChangeAt Go.RowKit Go.Lib

theorem ownKnob_none : ownKnob Tryz.prog.godebug = none := by kernel_rfl
theorem prog_laidOut : laidOutB Tryz.prog = true := by kernel_rfl

def sysText : List UInt8 := [97, 32, 115, 121, 115, 116, 101, 109, 32, 116, 104, 97, 116, 32, 105, 115, 32, 110, 111, 110, 101]

/-- A WORLD FOR THE WITNESS: the settled one, one block more: the error's struct; the variable holding its pointer. -/
noncomputable def laidWorld (os : Os) : World :=
  let N := (World.settled Tryz.prog os).heap.size
  let w0 := World.holding Tryz.prog os ⟨#[.cells #[.string ⟨sysText.toArray⟩] 266], #[], []⟩
  { w0 with heap := w0.heap.modify 0 fun
      | .cells _ t frozen => .cells #[.iface 246 (.pointer (some ⟨N, 0, none⟩))] t frozen
      | o => o }
noncomputable abbrev nBlock : Nat := (World.settled Tryz.prog default).heap.size
theorem laidIn_sys (os : Os) (args : Array Value) : LaidIn Tryz.prog ((laidWorld os).forCall (fun _ _ => 0) ⟨#[], args, []⟩).memory [("semblance/api.ErrSystem", Rows.laid_semblance_api_ErrSystem)] [0, nBlock] :=
  LaidIn.of_run [0, nBlock] 8 (by kernel_rfl) (by kernel_rfl) (by kernel_rfl) (by kernel_rfl)
theorem laid_met (os : Os) (args : Array Value) : laidMet Tryz.prog [("semblance/api.ErrSystem", Rows.laid_semblance_api_ErrSystem)] ((laidWorld os).forCall (fun _ _ => 0) ⟨#[], args, []⟩).memory :=
  (laidIn_sys os args).met

theorem star_es : "*" ++ "errors.errorString" = "*errors.errorString" := by decide
theorem row_es (u : TypeId) (h : Tryz.prog.typeName? 3 u = some "*errors.errorString") : u = 246 :=
  typeName_ptr_named (nm := "errors.errorString") (by rw [star_es]; kernel_rfl) (by kernel_rfl) (by decide) u (by rw [star_es]; exact h)

/-- WHAT THE ROW's LIST GIVES: the variable holds a pointer. -/
theorem gerr_sys {r : List (String × DataW Unit)} {W : World} (h : laidMet Tryz.prog (("semblance/api.ErrSystem", Rows.laid_semblance_api_ErrSystem) :: r) W) : ∃ p, GErr 0 p W := by
  obtain ⟨a, s, hv, hc, _, _⟩ := laid_sentinel (g := 0) h (by kernel_rfl) (by kernel_rfl) Tryz.underlying29 row_es Tryz.underlying246 Tryz.underlying266 rfl rfl Tryz.underlying9 (by kernel_rfl) (by kernel_rfl)
  have hcell := World.var?_cell (g := 0) (by kernel_rfl) hv 0
  have hcell : W.cell? ⟨0, 0, none⟩ = some (.iface 246 (.pointer (some a))) := by simpa using hcell
  exact ⟨a, World.block_lt_of_cell? _ _ hcell, hcell⟩

/-- A list of numbers that came in. -/
theorem open_intList {H : Type} {enc : TypeId × Value → H} {W : World} {fuel : Nat} {a : Option Addr} {n c : Nat} {x : DataW H × List MemPlace}
    (h : DataW.trod enc Tryz.prog W 0 (fun _ => true) true fuel 27 [.slice a n c] = some x) :
    ∃ (b off : Nat) (xs : List Int), n = xs.length ∧ xs.length ≤ maxLen ∧ SlAt encI 1 W a b off xs ∧ ∀ y ∈ xs, (Lit.int .i64 y).wf = true := by
  rcases open_ints Tryz.underlying27 Tryz.underlying3 (by kernel_rfl) h with ⟨hcs, _⟩ | ⟨ad, len, cap, zs, hcs, _, hl, hm, hz, _, hcell, hw⟩
  · simp at hcs
    obtain ⟨rfl, rfl, rfl⟩ := hcs
    exact ⟨0, 0, [], rfl, by simp, slAt_nil _ _ _ _, by simp⟩
  · simp at hcs
    obtain ⟨rfl, rfl, rfl⟩ := hcs
    simp only [if_true] at hz
    obtain ⟨b, off, spot⟩ := ad
    refine ⟨b, off, zs.take n, by simp; omega, by simp; omega, ?_, fun y hy => hw y (List.mem_of_mem_take hy)⟩
    have hcl : 0 < n → spot = none ∧ b < W.heap.size := by
      intro h0
      have hc0 := hcell 0 (by omega)
      have hspot : spot = none := by simpa [Addr.add] using World.cell?_spot hc0
      subst hspot
      exact ⟨rfl, World.block_lt_of_cell? _ _ hc0⟩
    refine ⟨fun hp => ?_, fun hp => (hcl (by simp at hp; omega)).2, fun i y hy j u hu => ?_⟩
    · obtain ⟨rfl, _⟩ := hcl (by simp at hp; omega)
      rfl
    · have hi : i < n := by have := (List.getElem?_eq_some_iff.1 hy).1; simp at this; omega
      obtain ⟨rfl, _⟩ := hcl (by omega)
      match j, hu with
      | 0, hu =>
        simp [encI] at hu; subst hu
        rw [List.getElem?_take_of_lt hi] at hy
        have := hcell i (by omega)
        rw [List.getD_eq_getElem?_getD, hy, Go.WideShapes.add_plain] at this
        simpa using this
end Go.Proofs.YtopnedihknjjfaaGreatDoor

namespace Go.Proofs.YtopnedihknjjfaaGreatDoor
open Go.ChangeShapes Go.WideShapes Go.ChangeAt Go.RowKit Go.Lib Go.Deep Pl

theorem cellsInt : Tryz.prog.cellsOf 3 = 1 := by kernel_rfl
theorem cellsEdge : Tryz.prog.cellsOf 36 = 3 := by kernel_rfl

def wfE (x : E) : Prop := (Lit.int .i64 x.1).wf = true ∧ (Lit.int .i64 x.2.1).wf = true ∧ (Lit.int .i64 x.2.2).wf = true

set_option maxRecDepth 100000 in
theorem open_edge {H : Type} {enc : TypeId × Value → H} {W : World} {fuel : Nat} {cs : List Value} {x : DataW H × List MemPlace}
    (h : DataW.trod enc Tryz.prog W 0 (fun _ => true) true fuel 36 cs = some x) : ∃ e : E, cs = encE e ∧ wfE e := by
  obtain ⟨y0, y1, y2, n, _, hl, h0, h1, h2⟩ := trod_struct3 Tryz.underlying36 h
  rw [cellsEdge] at hl
  match cs, hl with
  | [c0, c1, c2], _ =>
    simp only [cellsInt] at h0 h1 h2
    obtain ⟨a0, e0, _, w0⟩ := DataW.trod_int Tryz.underlying3 h0
    obtain ⟨a1, e1, _, w1⟩ := DataW.trod_int Tryz.underlying3 h1
    obtain ⟨a2, e2, _, w2⟩ := DataW.trod_int Tryz.underlying3 h2
    simp at e0 e1 e2
    subst e0 e1 e2
    exact ⟨(a0, a1, a2), rfl, w0, w1, w2⟩

set_option maxRecDepth 100000 in
/-- A list of edges that came in. -/
theorem open_edges {H : Type} {enc : TypeId × Value → H} {W : World} {fuel : Nat} {v : Value} {x : DataW H × List MemPlace}
    (h : DataW.trod enc Tryz.prog W 0 (fun _ => true) true fuel 22 [v] = some x) :
    ∃ (a : Option Addr) (c b off : Nat) (es : List E), v = .slice a es.length c ∧ es.length ≤ maxLen ∧ SlAt encE 3 W a b off es ∧ (∀ y ∈ es, wfE y) ∧ es.length ≤ c ∧ c ≤ maxLen := by
  rcases open_slice Tryz.underlying22 h with ⟨hcs, _⟩ | ⟨ad, len, cap, m, n, D, Pls, hcs, _, hl, hm, hmm, _, hi⟩
  · simp at hcs
    subst hcs
    exact ⟨none, 0, 0, 0, [], rfl, by simp, slAt_nil _ _ _ _, by simp, by simp, by simp⟩
  · simp at hcs
    subst hcs
    simp only [if_true] at hmm
    rw [cellsEdge] at hi
    have hex : ∀ i : Nat, ∃ e : E, i < m → wfE e ∧ ∀ j u, (encE e)[j]? = some u → W.cell? (ad.add (i * 3 + j)) = some u := by
      intro i
      by_cases him : i < m
      · obtain ⟨cs', hc, ht⟩ := hi i him
        obtain ⟨e, rfl, hw⟩ := open_edge ht
        obtain ⟨_, hcl, hat⟩ := World.cells?_some hc
        refine ⟨e, fun _ => ⟨hw, fun j u hu => ?_⟩⟩
        have hj : j < 3 := by have := (List.getElem?_eq_some_iff.1 hu).1; simpa [encE] using this
        rw [← Go.Deep.add_add, hat j hj, hu]
      · exact ⟨(0, 0, 0), fun h => absurd h him⟩
    obtain ⟨f, hf⟩ := Classical.axiomOfChoice hex
    obtain ⟨b, off, spot⟩ := ad
    have hcl : 0 < len → spot = none ∧ b < W.heap.size := by
      intro h0
      have hc0 := (hf 0 (by omega)).2 0 _ rfl
      have hspot : spot = none := by simpa [Addr.add] using World.cell?_spot hc0
      subst hspot
      exact ⟨rfl, World.block_lt_of_cell? _ _ hc0⟩
    refine ⟨some ⟨b, off, spot⟩, cap, b, off, (List.range len).map f, by simp, by simp; omega, ⟨fun hp => ?_, fun hp => (hcl (by simpa using hp)).2, fun i y hy j u hu => ?_⟩, ?_, by simp; omega, by omega⟩
    · obtain ⟨rfl, _⟩ := hcl (by simpa using hp); rfl
    · have hil : i < len := by have := (List.getElem?_eq_some_iff.1 hy).1; simpa using this
      obtain ⟨rfl, _⟩ := hcl (by omega)
      have hy' : y = f i := by simp [hil] at hy; exact hy.symm
      subst hy'
      have := (hf i (by omega)).2 j u hu
      rw [Go.WideShapes.add_plain, ← Nat.add_assoc] at this
      exact this
    · intro y hy
      obtain ⟨i, hi', rfl⟩ := List.mem_map.1 hy
      rw [List.mem_range] at hi'
      exact (hf i (by omega)).1

set_option maxRecDepth 100000 in
/-- A system that came in. -/
theorem open_sys {H : Type} {enc : TypeId × Value → H} {W : World} {r : Reach} {b0 : Nat} {v : Value} {d : DataW H} {p : List MemPlace}
    (hv : Value.okWide Tryz.prog W r b0 24 v) (h : DataW.Trod enc Tryz.prog W 0 (fun _ => true) true 24 v d p) :
    ∃ (s : Lts) (a : Option Addr) (c b off : Nat), v = .agg #[.int .i64 s.st, .int .i64 s.lb, .int .i64 s.s0, .slice a s.es.length c] ∧ s.es.length ≤ maxLen ∧ SlAt encE 3 W a b off s.es ∧
      (∀ y ∈ s.es, wfE y) ∧ (Lit.int .i64 s.st).wf = true ∧ (Lit.int .i64 s.lb).wf = true ∧ (Lit.int .i64 s.s0).wf = true ∧ s.es.length ≤ c ∧ c ≤ maxLen := by
  obtain ⟨v0, v1, v2, v3, y0, y1, y2, y3, n, rfl, _, _, h0, h1, h2, h3⟩ := Go.Joins.open_agg4 Tryz.underlying24 (by kernel_rfl) (by kernel_rfl) hv h
  obtain ⟨a0, e0, _, w0⟩ := DataW.trod_int Tryz.underlying3 h0
  obtain ⟨a1, e1, _, w1⟩ := DataW.trod_int Tryz.underlying3 h1
  obtain ⟨a2, e2, _, w2⟩ := DataW.trod_int Tryz.underlying3 h2
  obtain ⟨a, c, b, off, es, rfl, hl, hS, hw, hc1, hc2⟩ := open_edges h3
  simp at e0 e1 e2
  subst e0 e1 e2
  exact ⟨⟨a0, a1, a2, es⟩, a, c, b, off, rfl, hl, hS, hw, w0, w1, w2, hc1, hc2⟩

end Go.Proofs.YtopnedihknjjfaaGreatDoor

namespace Go.Proofs.YtopnedihknjjfaaGreatDoor
open Go.ChangeShapes Go.WideShapes Go.ChangeAt Go.RowKit Go.Lib

theorem laidVars_subl {P : Program} {w : World} {l' l : List (String × DataW Unit)} (h : l'.Sublist l) : ∀ {ps : List MemPlace}, DataW.LaidVars P w l ps → ∃ ps', DataW.LaidVars P w l' ps' ∧ ps'.Sublist ps := by
  induction h with
  | slnil => intro ps hv; exact ⟨ps, hv, List.Sublist.refl _⟩
  | cons a _ ih =>
    intro ps hv
    obtain ⟨n, d⟩ := a
    obtain ⟨g, t, cs, fuel, p, q, _, _, _, _, hq, rfl⟩ := hv
    obtain ⟨ps', h1, h2⟩ := ih hq
    exact ⟨ps', h1, h2.trans (List.sublist_append_right _ _)⟩
  | cons_cons a _ ih =>
    intro ps hv
    obtain ⟨n, d⟩ := a
    obtain ⟨g, t, cs, fuel, p, q, h1, h2, h3, h4, hq, rfl⟩ := hv
    obtain ⟨ps', h5, h6⟩ := ih hq
    exact ⟨_, ⟨g, t, cs, fuel, p, ps', h1, h2, h3, h4, h5, rfl⟩, List.Sublist.append (List.Sublist.refl _) h6⟩
theorem laidMet_subl {P : Program} {w : World} {l' l : List (String × DataW Unit)} (hs : l'.Sublist l) (h : laidMet P l w) : laidMet P l' w := by
  obtain ⟨ps, hv, hnd, hrows⟩ := h
  obtain ⟨ps', h1, h2⟩ := laidVars_subl hs hv
  exact ⟨ps', h1, hnd.sublist h2, fun b off hm => hrows b off (h2.subset hm)⟩

/-- A sentinel: its variable holds a pointer. -/
theorem gerr_of {n : String} {g : Nat} {text : List UInt8} {W : World} (h : laidMet Tryz.prog [(n, .iface "*errors.errorString" (.ptr (.agg [.lit (.string text)])))] W)
    (hg : Tryz.prog.globalNamed n = some g) (ht : (Tryz.prog.globals[g]?).map (·.type) = some 29) : ∃ p, GErr g p W := by
  obtain ⟨a, s, hv, hc, _, _⟩ := laid_sentinel (g := g) h hg ht Tryz.underlying29 row_es Tryz.underlying246 Tryz.underlying266 rfl rfl Tryz.underlying9 (by kernel_rfl) (by kernel_rfl)
  have hcell := World.var?_cell (g := g) hg hv 0
  have hcell : W.cell? ⟨g, 0, none⟩ = some (.iface 246 (.pointer (some a))) := by simpa using hcell
  exact ⟨a, World.block_lt_of_cell? _ _ hcell, hcell⟩

theorem et_named : Tryz.prog.globalNamed "errors.errorType" = some 19 := by kernel_rfl
theorem et_rt : (Tryz.prog.cutTypes.find? (·.1 == "internal/reflectlite.rtype")).map (·.2) = some 185 := by kernel_rfl
theorem et_rows : ((List.range 278).filter fun t => Tryz.prog.rowNamed t [101, 114, 114, 111, 114]) = [29] := by kernel_rfl
theorem et_size : Tryz.prog.types.size = 278 := by kernel_rfl

/-- The handle of 'error'. -/
theorem errType_of {W : World} (h : handlesMet Tryz.prog [("errors.errorType", Rows.laid_errors_errorType)] W) : ErrType W := by
  obtain ⟨name, u, ty, e1, e2, e3, e4, e5⟩ := h _ (List.mem_singleton.2 rfl)
  have en : name = [101, 114, 114, 111, 114] := (Option.some.inj e1).symm
  subst en
  obtain rfl := Option.some.inj (et_rt.symm.trans e2)
  have hm : ty ∈ (List.range 278).filter fun t => Tryz.prog.rowNamed t [101, 114, 114, 111, 114] := List.mem_filter.2 ⟨List.mem_range.2 (by rw [← et_size]; exact e3), e4⟩
  rw [et_rows] at hm
  obtain rfl := List.mem_singleton.1 hm
  have hh : typeHandle Tryz.prog 29 = .pointer (some ⟨23, 29, none⟩) := by kernel_rfl
  rw [hh] at e5
  exact ⟨by simpa using World.var?_cell et_named e5 0⟩
end Go.Proofs.YtopnedihknjjfaaGreatDoor

namespace Go.Proofs.YtopnedihknjjfaaGreatDoor
open Go.ChangeShapes Go.WideShapes Go.ChangeAt Go.RowKit Go.Lib

def laidBq : List (String × DataW Unit) := [("math/bits.deBruijn32tab", Rows.laid_math_bits_deBruijn32tab), ("math/bits.deBruijn64tab", Rows.laid_math_bits_deBruijn64tab), ("internal/strconv.uint64pow10", Rows.laid_internal_strconv_uint64pow10), ("errors.errorType", Rows.laid_errors_errorType), ("semblance/api.ErrArg", Rows.laid_semblance_api_ErrArg), ("semblance/api.ErrIndex", Rows.laid_semblance_api_ErrIndex), ("semblance/api.ErrSystem", Rows.laid_semblance_api_ErrSystem), ("semblance/api.ErrClasses", Rows.laid_semblance_api_ErrClasses)]
noncomputable def laidWorldBq (os : Os) : World :=
  let N := (World.settled Tryz.prog os).heap.size
  let w0 := World.holding Tryz.prog os ⟨#[.cells #[.string ⟨([97, 110, 32, 97, 114, 103, 117, 109, 101, 110, 116, 32, 116, 104, 97, 116, 32, 99, 97, 110, 39, 116, 32, 98, 101] : List UInt8).toArray⟩] 266, .cells #[.string ⟨([97, 32, 110, 117, 109, 98, 101, 114, 32, 116, 104, 97, 116, 32, 105, 115, 32, 110, 111, 116, 32, 116, 104, 101, 114, 101] : List UInt8).toArray⟩] 266, .cells #[.string ⟨([97, 32, 115, 121, 115, 116, 101, 109, 32, 116, 104, 97, 116, 32, 105, 115, 32, 110, 111, 110, 101] : List UInt8).toArray⟩] 266, .cells #[.string ⟨([99, 108, 97, 115, 115, 101, 115, 32, 116, 104, 97, 116, 32, 97, 114, 101, 32, 110, 111, 110, 101] : List UInt8).toArray⟩] 266], #[], []⟩
  let put := fun (h : Array Obj) (g : Nat) (cs : Array Value) => h.modify g fun
      | .cells _ t frozen => .cells cs t frozen
      | o => o
  { w0 with heap := put (put (put (put (put (put (put (put (w0.heap) 21 #[.int .u8 0, .int .u8 1, .int .u8 28, .int .u8 2, .int .u8 29, .int .u8 14, .int .u8 24, .int .u8 3, .int .u8 30, .int .u8 22, .int .u8 20, .int .u8 15, .int .u8 25, .int .u8 17, .int .u8 4, .int .u8 8, .int .u8 31, .int .u8 27, .int .u8 13, .int .u8 23, .int .u8 21, .int .u8 19, .int .u8 16, .int .u8 7, .int .u8 26, .int .u8 12, .int .u8 18, .int .u8 6, .int .u8 11, .int .u8 5, .int .u8 10, .int .u8 9]) 22 #[.int .u8 0, .int .u8 1, .int .u8 56, .int .u8 2, .int .u8 57, .int .u8 49, .int .u8 28, .int .u8 3, .int .u8 61, .int .u8 58, .int .u8 42, .int .u8 50, .int .u8 38, .int .u8 29, .int .u8 17, .int .u8 4, .int .u8 62, .int .u8 47, .int .u8 59, .int .u8 36, .int .u8 45, .int .u8 43, .int .u8 51, .int .u8 22, .int .u8 53, .int .u8 39, .int .u8 33, .int .u8 30, .int .u8 24, .int .u8 18, .int .u8 12, .int .u8 5, .int .u8 63, .int .u8 55, .int .u8 48, .int .u8 27, .int .u8 60, .int .u8 41, .int .u8 37, .int .u8 16, .int .u8 46, .int .u8 35, .int .u8 44, .int .u8 21, .int .u8 52, .int .u8 32, .int .u8 23, .int .u8 11, .int .u8 54, .int .u8 26, .int .u8 40, .int .u8 15, .int .u8 34, .int .u8 20, .int .u8 31, .int .u8 10, .int .u8 25, .int .u8 14, .int .u8 19, .int .u8 9, .int .u8 13, .int .u8 8, .int .u8 7, .int .u8 6]) 20 #[.int .u64 1, .int .u64 10, .int .u64 100, .int .u64 1000, .int .u64 10000, .int .u64 100000, .int .u64 1000000, .int .u64 10000000, .int .u64 100000000, .int .u64 1000000000, .int .u64 10000000000, .int .u64 100000000000, .int .u64 1000000000000, .int .u64 10000000000000, .int .u64 100000000000000, .int .u64 1000000000000000, .int .u64 10000000000000000, .int .u64 100000000000000000, .int .u64 1000000000000000000, .int .u64 10000000000000000000]) 19 #[.iface 185 (.agg #[.pointer (some ⟨23, 29, none⟩)])]) 2 #[.iface 246 (.pointer (some ⟨N + 0, 0, none⟩))]) 1 #[.iface 246 (.pointer (some ⟨N + 1, 0, none⟩))]) 0 #[.iface 246 (.pointer (some ⟨N + 2, 0, none⟩))]) 11 #[.iface 246 (.pointer (some ⟨N + 3, 0, none⟩))] }
theorem laidInBq (os : Os) (args : Array Value) : LaidIn Tryz.prog ((laidWorldBq os).forCall (fun _ _ => 0) ⟨#[], args, []⟩).memory [("math/bits.deBruijn32tab", Rows.laid_math_bits_deBruijn32tab), ("math/bits.deBruijn64tab", Rows.laid_math_bits_deBruijn64tab), ("internal/strconv.uint64pow10", Rows.laid_internal_strconv_uint64pow10), ("semblance/api.ErrArg", Rows.laid_semblance_api_ErrArg), ("semblance/api.ErrIndex", Rows.laid_semblance_api_ErrIndex), ("semblance/api.ErrSystem", Rows.laid_semblance_api_ErrSystem), ("semblance/api.ErrClasses", Rows.laid_semblance_api_ErrClasses)] [21, 22, 20, 2, 1, 0, 11, nBlock + 0, nBlock + 1, nBlock + 2, nBlock + 3] :=
  LaidIn.of_run [21, 22, 20, 2, 1, 0, 11, nBlock + 0, nBlock + 1, nBlock + 2, nBlock + 3] 8 (by kernel_rfl) (by kernel_rfl) (by kernel_rfl) (by kernel_rfl)
theorem laid_metBq (os : Os) (args : Array Value) : laidMetH Tryz.prog laidBq ((laidWorldBq os).forCall (fun _ _ => 0) ⟨#[], args, []⟩).memory :=
  laidMetH_of_parts (laidInBq os args).met (by kernel_rfl)
theorem laidBq_data {W : World} (h : laidMetH Tryz.prog laidBq W) : laidMet Tryz.prog [("math/bits.deBruijn32tab", Rows.laid_math_bits_deBruijn32tab), ("math/bits.deBruijn64tab", Rows.laid_math_bits_deBruijn64tab), ("internal/strconv.uint64pow10", Rows.laid_internal_strconv_uint64pow10), ("semblance/api.ErrArg", Rows.laid_semblance_api_ErrArg), ("semblance/api.ErrIndex", Rows.laid_semblance_api_ErrIndex), ("semblance/api.ErrSystem", Rows.laid_semblance_api_ErrSystem), ("semblance/api.ErrClasses", Rows.laid_semblance_api_ErrClasses)] W := (show laidMet Tryz.prog [("math/bits.deBruijn32tab", Rows.laid_math_bits_deBruijn32tab), ("math/bits.deBruijn64tab", Rows.laid_math_bits_deBruijn64tab), ("internal/strconv.uint64pow10", Rows.laid_internal_strconv_uint64pow10), ("semblance/api.ErrArg", Rows.laid_semblance_api_ErrArg), ("semblance/api.ErrIndex", Rows.laid_semblance_api_ErrIndex), ("semblance/api.ErrSystem", Rows.laid_semblance_api_ErrSystem), ("semblance/api.ErrClasses", Rows.laid_semblance_api_ErrClasses)] W ∧ handlesMet Tryz.prog [("errors.errorType", Rows.laid_errors_errorType)] W from h).1
theorem laidBq_errType {W : World} (h : laidMetH Tryz.prog laidBq W) : ErrType W := errType_of (show laidMet Tryz.prog [("math/bits.deBruijn32tab", Rows.laid_math_bits_deBruijn32tab), ("math/bits.deBruijn64tab", Rows.laid_math_bits_deBruijn64tab), ("internal/strconv.uint64pow10", Rows.laid_internal_strconv_uint64pow10), ("semblance/api.ErrArg", Rows.laid_semblance_api_ErrArg), ("semblance/api.ErrIndex", Rows.laid_semblance_api_ErrIndex), ("semblance/api.ErrSystem", Rows.laid_semblance_api_ErrSystem), ("semblance/api.ErrClasses", Rows.laid_semblance_api_ErrClasses)] W ∧ handlesMet Tryz.prog [("errors.errorType", Rows.laid_errors_errorType)] W from h).2
theorem laidBq_ErrArg {W : World} (h : laidMetH Tryz.prog laidBq W) : ∃ p, GErr 2 p W := gerr_of (n := "semblance/api.ErrArg") (laidMet_subl (.cons _ (.cons _ (.cons _ (.cons_cons _ (List.nil_sublist _))))) (laidBq_data h)) (by kernel_rfl) (by kernel_rfl)
theorem laidBq_ErrIndex {W : World} (h : laidMetH Tryz.prog laidBq W) : ∃ p, GErr 1 p W := gerr_of (n := "semblance/api.ErrIndex") (laidMet_subl (.cons _ (.cons _ (.cons _ (.cons _ (.cons_cons _ (List.nil_sublist _)))))) (laidBq_data h)) (by kernel_rfl) (by kernel_rfl)
theorem laidBq_ErrSystem {W : World} (h : laidMetH Tryz.prog laidBq W) : ∃ p, GErr 0 p W := gerr_of (n := "semblance/api.ErrSystem") (laidMet_subl (.cons _ (.cons _ (.cons _ (.cons _ (.cons _ (.cons_cons _ (List.nil_sublist _))))))) (laidBq_data h)) (by kernel_rfl) (by kernel_rfl)
theorem laidBq_ErrClasses {W : World} (h : laidMetH Tryz.prog laidBq W) : ∃ p, GErr 11 p W := gerr_of (n := "semblance/api.ErrClasses") (laidMet_subl (.cons _ (.cons _ (.cons _ (.cons _ (.cons _ (.cons _ (.cons_cons _ (List.nil_sublist _)))))))) (laidBq_data h)) (by kernel_rfl) (by kernel_rfl)
theorem laidBq_pow10 {W : World} (h : laidMetH Tryz.prog laidBq W) : TabIs Tryz.prog W "internal/strconv.uint64pow10" .u64 Lib.pow10Tab := by
  have h1 : laidMet Tryz.prog [("internal/strconv.uint64pow10", Rows.laid_internal_strconv_uint64pow10)] W := laidMet_subl (.cons _ (.cons _ (.cons_cons _ (List.nil_sublist _)))) (laidBq_data h)
  have e : (Rows.laid_internal_strconv_uint64pow10 : DataW Unit) = Lib.tabData .u64 Lib.pow10Tab := by kernel_rfl
  rw [e] at h1
  exact tabIs_of_head (g := 20) (t := 241) (e := 162) (n := 20) (by kernel_rfl) (by kernel_rfl) Tryz.underlying241 Tryz.underlying162 (by kernel_rfl) (by kernel_rfl) h1
end Go.Proofs.YtopnedihknjjfaaGreatDoor

namespace Go.Proofs.YtopnedihknjjfaaGreatDoor
open Go.RowKit Pl

/-- The row ob of m slices; the l-th owns the list f l. -/
def FR (ob m : Nat) (vs : Nat → Value) (f : Nat → List Int) : List Rw :=
  ⟨27, 1, .slice (some ⟨ob, 0, none⟩) m m, m, (List.range m).map vs⟩ :: (List.range m).map (fun l => (⟨3, 1, vs l, (f l).length, (f l).flatMap encI⟩ : Rw))

theorem range_map_set {α : Type} {m l : Nat} (g : Nat → α) (x : α) : ((List.range m).map g).set l x = (List.range m).map (upd g l x) := by
  apply List.ext_getElem?
  intro i
  rw [List.getElem?_set]
  by_cases h : i < m
  · by_cases e : l = i
    · subst e; simp [h, upd]
    · rw [if_neg e]
      simp [h, upd, show ¬ i = l from fun e2 => e e2.symm]
  · by_cases e : l = i
    · subst e; simp [h]
    · rw [if_neg e]; simp [h]

theorem FR.set {ob m l : Nat} {vs : Nat → Value} {f : Nat → List Int} (v : Value) (ys : List Int) (rest : List Rw) (hl : l < m) :
    (((FR ob m vs f ++ rest).set (l + 1) ⟨3, 1, v, ys.length, ys.flatMap encI⟩).set 0 ⟨27, 1, .slice (some ⟨ob, 0, none⟩) m m, m, ((List.range m).map vs).set l v⟩) = FR ob m (upd vs l v) (upd f l ys) ++ rest := by
  unfold FR
  rw [List.cons_append, List.set_cons_succ, List.set_cons_zero, List.set_append_left _ _ (by simpa using hl), range_map_set, range_map_set, List.cons_append]
  congr 2
  apply List.map_congr_left
  intro i _
  unfold upd
  split <;> rfl

section
variable {w0 w w' w1 w2 : World} {rest : List Rw} {ob m : Nat} {vs : Nat → Value} {f : Nat → List Int}

theorem Rws.frMade (h : Rws w0 w rest) (hm : m ≤ maxLen) : Rws w0 (w.alloc (.cells (madeCells #[.slice none 0 0] m) 27)) (FR w.heap.size m (fun _ => .slice none 0 0) (fun _ => []) ++ rest) := by
  have key : ∀ k, Rws w0 w ((List.range k).map (fun _ => (⟨3, 1, .slice none 0 0, 0, []⟩ : Rw)) ++ rest) := fun k => by
    induction k with
    | zero => exact h
    | succ k ih =>
      rw [List.range_succ_eq_map, List.map_cons, List.map_map]
      exact ih.addNil _ _
  have h2 := (key m).addLit (madeCells #[.slice none 0 0] m) 27 (k := 1) (n := m) hm (by simp [size_madeCells])
  have e : (madeCells #[.slice none 0 0] m).toList = (List.range m).map (fun _ => (.slice none 0 0 : Value)) := by
    rw [toList_madeCells_one]
    apply List.ext_getElem?
    intro i
    by_cases hi : i < m <;> simp [hi]
  rw [e] at h2
  exact h2

theorem Rws.frCell (h : Rws w0 w (FR ob m vs f ++ rest)) {l : Nat} (hl : l < m) : w.cell? ⟨ob, l, none⟩ = some (vs l) ∧ w.frozen? ⟨ob, l, none⟩ = false ∧ ob < w.heap.size ∧ w0.heap.size ≤ ob :=
  ⟨h.cell (i := 0) rfl (by simp [hl]), h.fz (i := 0) rfl l, (h.lt (i := 0) rfl).2, (h.lt (i := 0) rfl).1⟩
theorem Rws.frOwn (h : Rws w0 w (FR ob m vs f ++ rest)) {l : Nat} (hl : l < m) : w.ownsRow w0.heap.size 3 1 (vs l) (f l).length ((f l).flatMap encI) :=
  h.get (i := l + 1) (r := ⟨3, 1, vs l, (f l).length, (f l).flatMap encI⟩) (by unfold FR; rw [List.cons_append, List.getElem?_cons_succ, List.getElem?_append_left (by simpa using hl)]; simp [hl])
/-- An append to the l-th list: behind it, and behind the store. -/
theorem Rws.frGrow {w2 : World} (h : Rws w0 w (FR ob m vs f ++ rest)) (hB2 : Below w.heap.size w w2) {l : Nat} (hl : l < m) {v' : Value} {ys : List Int} (ho : w1.ownsRow w0.heap.size 3 1 v' ys.length (ys.flatMap encI)) (hg : w2.grownBy w1 (vs l).ownBlock)
    (hh : ∀ g, v'.ownBlock = some g → (vs l).ownBlock = some g ∨ w.heap.size ≤ g) :
    w1.cell? ⟨ob, l, none⟩ = some (vs l) ∧ w1.frozen? ⟨ob, l, none⟩ = false ∧ ob < w1.heap.size ∧ Rws w0 (w1.setCell ⟨ob, l, none⟩ v') (FR ob m (upd vs l v') (upd f l ys) ++ rest) := by
  have hi : (FR ob m vs f ++ rest)[l + 1]? = some (⟨3, 1, vs l, (f l).length, (f l).flatMap encI⟩ : Rw) := by
    unfold FR; rw [List.cons_append, List.getElem?_cons_succ, List.getElem?_append_left (by simpa using hl)]; simp [hl]
  have hs := h.grown hB2 (l + 1) hi ho hg hh
  have h0 : ((FR ob m vs f ++ rest).set (l + 1) ⟨3, 1, v', ys.length, ys.flatMap encI⟩)[0]? = some (⟨27, 1, .slice (some ⟨ob, 0, none⟩) m m, m, (List.range m).map vs⟩ : Rw) := by
    unfold FR; rw [List.cons_append, List.set_cons_succ]; rfl
  have h2 := hs.set 0 h0 l v'
  rw [FR.set v' ys rest hl] at h2
  exact ⟨hs.cell h0 (by simp [hl]), hs.fz h0 l, (hs.lt h0).2, h2⟩
end
end Go.Proofs.YtopnedihknjjfaaGreatDoor

namespace Go.Proofs.YtopnedihknjjfaaGreatDoor
open Go.RowKit Pl

def encT (x : B3) : List Value := [.int .i64 x.1, .int .i64 x.2.1, .int .i64 x.2.2]
theorem lenT (x : B3) : (encT x).length = 3 := rfl
def flN (n : Nat) (f : Nat → Nat) : List Int := fl n (fun i => (f i : Int))
theorem flN_len (n : Nat) (f : Nat → Nat) : (flN n f).length = n := fl_len _ _
theorem flN_get {n : Nat} (f : Nat → Nat) {i : Nat} (h : i < n) : (flN n f)[i]? = some (f i : Int) := fl_get _ h

theorem rowT : IsRow Tryz.prog 174 229 3 24 (.agg #[.int .i64 0, .int .i64 0, .int .i64 0]) := isRow_of Tryz.underlying174 (by kernel_rfl) rfl (by decide)

theorem flatI (L : List Int) : L.flatMap encI = L.map (Value.int .i64) := by
  induction L with
  | nil => rfl
  | cons x l ih => rw [List.flatMap_cons, ih]; rfl
theorem flN_map (n : Nat) (f : Nat → Nat) : (flN n f).flatMap encI = (List.range n).map (fun i => Value.int .i64 (f i : Int)) := by
  rw [flatI]; unfold flN fl; rw [List.map_map]; rfl
theorem range_map_set' {α : Type} {m l : Nat} (g : Nat → α) (x : α) : ((List.range m).map g).set l x = (List.range m).map (fun i => if i = l then x else g i) := by
  apply List.ext_getElem?
  intro i
  rw [List.getElem?_set]
  by_cases h : i < m
  · by_cases e : l = i
    · subst e; simp [h]
    · rw [if_neg e]
      simp [h, show ¬ i = l from fun e2 => e e2.symm]
  · by_cases e : l = i
    · subst e; simp [h]
    · rw [if_neg e]; simp [h]
theorem flN_set (n : Nat) (f : Nat → Nat) (j v : Nat) : ((flN n f).flatMap encI).set j (.int .i64 (v : Int)) = (flN n (upd f j v)).flatMap encI := by
  rw [flN_map, flN_map, range_map_set']
  apply List.map_congr_left
  intro i _
  unfold upd
  split <;> rfl
theorem flN_at {n : Nat} (f : Nat → Nat) {i : Nat} (h : i < n) : ((flN n f).flatMap encI)[i]? = some (.int .i64 (f i : Int)) := by
  rw [flN_map]; simp [h]
theorem flT_at {bl : List B3} {b : Nat} {x : B3} (h : bl[b]? = some x) : (bl.flatMap encT)[b * 3]? = some (.int .i64 (x.1 : Int)) ∧ (bl.flatMap encT)[b * 3 + 1]? = some (.int .i64 (x.2.1 : Int)) ∧ (bl.flatMap encT)[b * 3 + 2]? = some (.int .i64 (x.2.2 : Int)) :=
  ⟨by simpa using getElem?_flatMap lenT bl b x h 0 _ rfl, getElem?_flatMap lenT bl b x h 1 _ rfl, getElem?_flatMap lenT bl b x h 2 _ rfl⟩
theorem flT_set : ∀ {bl : List B3} {b : Nat} {x y : B3} (j : Nat) (v : Value), bl[b]? = some x → j < 3 → (encT x).set j v = encT y → (bl.flatMap encT).set (b * 3 + j) v = (bl.set b y).flatMap encT
  | [], b, x, y, j, v, h, _, _ => by simp at h
  | z :: bl, 0, x, y, j, v, h, hj, he => by
    simp at h; subst h
    rw [Nat.zero_mul, Nat.zero_add, List.flatMap_cons, List.set_cons_zero, List.flatMap_cons, List.set_append_left _ _ (by rw [lenT]; exact hj), he]
  | z :: bl, b + 1, x, y, j, v, h, hj, he => by
    rw [List.flatMap_cons, List.set_cons_succ, List.flatMap_cons, List.set_append_right _ _ (by rw [lenT, Nat.add_mul]; omega), lenT]
    rw [show (b + 1) * 3 + j - 3 = b * 3 + j by rw [Nat.add_mul]; omega, flT_set j v (by simpa using h) hj he]

/-- Where a partition's rows lie, and what they can hold. -/
structure PK where
  pb : Nat
  eb : Nat
  qb : Nat
  ib : Nat
  bb : Nat
  ce : Nat
  cq : Nat
  ci : Nat
  cb : Nat

def PR (K : PK) (n : Nat) (el pl inn : Nat → Nat) (bl : List B3) : List Rw :=
  [⟨176, 4, .slice (some ⟨K.pb, 0, none⟩) 1 1, 1, [.slice (some ⟨K.eb, 0, none⟩) n K.ce, .slice (some ⟨K.qb, 0, none⟩) n K.cq, .slice (some ⟨K.ib, 0, none⟩) n K.ci, .slice (some ⟨K.bb, 0, none⟩) bl.length K.cb]⟩,
   ⟨3, 1, .slice (some ⟨K.eb, 0, none⟩) n K.ce, n, (flN n el).flatMap encI⟩,
   ⟨3, 1, .slice (some ⟨K.qb, 0, none⟩) n K.cq, n, (flN n pl).flatMap encI⟩,
   ⟨3, 1, .slice (some ⟨K.ib, 0, none⟩) n K.ci, n, (flN n inn).flatMap encI⟩,
   ⟨229, 3, .slice (some ⟨K.bb, 0, none⟩) bl.length K.cb, bl.length, bl.flatMap encT⟩]

section
variable {w0 w w' w1 : World} {K : PK} {n : Nat} {el pl inn : Nat → Nat} {bl : List B3} {rest : List Rw}

theorem own_caps {base : Nat} {e : TypeId} {k n g c : Nat} {xs : List Value} (h : w.ownsRow base e k (.slice (some ⟨g, 0, none⟩) n c) n xs) : n ≤ c ∧ c ≤ maxLen := by
  rcases h.2 with ⟨h2, _⟩ | ⟨g', c', cur, hv, _, _, h3, h4, _⟩
  · simp at h2
  · simp only [Value.slice.injEq] at hv
    obtain ⟨_, _, rfl⟩ := hv
    exact ⟨h3, h4⟩

theorem Rws.pCells (h : Rws w0 w (PR K n el pl inn bl ++ rest)) :
    w.cell? ⟨K.pb, 0, none⟩ = some (.slice (some ⟨K.eb, 0, none⟩) n K.ce) ∧ w.cell? ⟨K.pb, 1, none⟩ = some (.slice (some ⟨K.qb, 0, none⟩) n K.cq) ∧ w.cell? ⟨K.pb, 2, none⟩ = some (.slice (some ⟨K.ib, 0, none⟩) n K.ci) ∧ w.cell? ⟨K.pb, 3, none⟩ = some (.slice (some ⟨K.bb, 0, none⟩) bl.length K.cb) :=
  ⟨h.cell (i := 0) rfl rfl, h.cell (i := 0) rfl rfl, h.cell (i := 0) rfl rfl, h.cell (i := 0) rfl rfl⟩
theorem Rws.pLts (h : Rws w0 w (PR K n el pl inn bl ++ rest)) : K.pb < w.heap.size ∧ K.eb < w.heap.size ∧ K.qb < w.heap.size ∧ K.ib < w.heap.size ∧ K.bb < w.heap.size :=
  ⟨(h.lt (i := 0) rfl).2, (h.lt (i := 1) rfl).2, (h.lt (i := 2) rfl).2, (h.lt (i := 3) rfl).2, (h.lt (i := 4) rfl).2⟩
theorem Rws.pLo (h : Rws w0 w (PR K n el pl inn bl ++ rest)) : w0.heap.size ≤ K.pb ∧ w0.heap.size ≤ K.eb ∧ w0.heap.size ≤ K.qb ∧ w0.heap.size ≤ K.ib ∧ w0.heap.size ≤ K.bb :=
  ⟨(h.lt (i := 0) rfl).1, (h.lt (i := 1) rfl).1, (h.lt (i := 2) rfl).1, (h.lt (i := 3) rfl).1, (h.lt (i := 4) rfl).1⟩
theorem Rws.pCaps (h : Rws w0 w (PR K n el pl inn bl ++ rest)) : n ≤ K.ce ∧ n ≤ K.cq ∧ n ≤ K.ci ∧ bl.length ≤ K.cb :=
  ⟨(own_caps (h.get (i := 1) rfl)).1, (own_caps (h.get (i := 2) rfl)).1, (own_caps (h.get (i := 3) rfl)).1, (own_caps (h.get (i := 4) rfl)).1⟩
theorem Rws.pNe (h : Rws w0 w (PR K n el pl inn bl ++ rest)) : K.pb ≠ K.eb ∧ K.pb ≠ K.qb ∧ K.pb ≠ K.ib ∧ K.pb ≠ K.bb ∧ K.eb ≠ K.qb ∧ K.eb ≠ K.ib ∧ K.eb ≠ K.bb ∧ K.qb ≠ K.ib ∧ K.qb ≠ K.bb ∧ K.ib ≠ K.bb :=
  ⟨h.ne' (i := 0) (j := 1) rfl rfl (by decide), h.ne' (i := 0) (j := 2) rfl rfl (by decide), h.ne' (i := 0) (j := 3) rfl rfl (by decide), h.ne' (i := 0) (j := 4) rfl rfl (by decide), h.ne' (i := 1) (j := 2) rfl rfl (by decide), h.ne' (i := 1) (j := 3) rfl rfl (by decide), h.ne' (i := 1) (j := 4) rfl rfl (by decide), h.ne' (i := 2) (j := 3) rfl rfl (by decide), h.ne' (i := 2) (j := 4) rfl rfl (by decide), h.ne' (i := 3) (j := 4) rfl rfl (by decide)⟩
theorem Rws.pFz (h : Rws w0 w (PR K n el pl inn bl ++ rest)) (j : Nat) : w.frozen? ⟨K.pb, j, none⟩ = false ∧ w.frozen? ⟨K.eb, j, none⟩ = false ∧ w.frozen? ⟨K.qb, j, none⟩ = false ∧ w.frozen? ⟨K.ib, j, none⟩ = false ∧ w.frozen? ⟨K.bb, j, none⟩ = false :=
  ⟨h.fz (i := 0) rfl j, h.fz (i := 1) rfl j, h.fz (i := 2) rfl j, h.fz (i := 3) rfl j, h.fz (i := 4) rfl j⟩
theorem Rws.pEl (h : Rws w0 w (PR K n el pl inn bl ++ rest)) {i : Nat} (hi : i < n) : w.cell? ⟨K.eb, i, none⟩ = some (.int .i64 (el i : Int)) := h.cell (i := 1) rfl (flN_at _ hi)
theorem Rws.pPl (h : Rws w0 w (PR K n el pl inn bl ++ rest)) {i : Nat} (hi : i < n) : w.cell? ⟨K.qb, i, none⟩ = some (.int .i64 (pl i : Int)) := h.cell (i := 2) rfl (flN_at _ hi)
theorem Rws.pIn (h : Rws w0 w (PR K n el pl inn bl ++ rest)) {i : Nat} (hi : i < n) : w.cell? ⟨K.ib, i, none⟩ = some (.int .i64 (inn i : Int)) := h.cell (i := 3) rfl (flN_at _ hi)
theorem Rws.pBl (h : Rws w0 w (PR K n el pl inn bl ++ rest)) {b : Nat} {x : B3} (hb : bl[b]? = some x) : w.cell? ⟨K.bb, b * 3, none⟩ = some (.int .i64 (x.1 : Int)) ∧ w.cell? ⟨K.bb, b * 3 + 1, none⟩ = some (.int .i64 (x.2.1 : Int)) ∧ w.cell? ⟨K.bb, b * 3 + 2, none⟩ = some (.int .i64 (x.2.2 : Int)) := by
  obtain ⟨h0, h1, h2⟩ := flT_at hb
  exact ⟨h.cell (i := 4) rfl h0, h.cell (i := 4) rfl h1, h.cell (i := 4) rfl h2⟩

theorem Rws.pSetEl (h : Rws w0 w (PR K n el pl inn bl ++ rest)) (j v : Nat) : Rws w0 (w.setCell ⟨K.eb, j, none⟩ (.int .i64 (v : Int))) (PR K n (upd el j v) pl inn bl ++ rest) := by
  have := h.set 1 rfl j (.int .i64 (v : Int)); rw [flN_set] at this; exact this
theorem Rws.pSetPl (h : Rws w0 w (PR K n el pl inn bl ++ rest)) (j v : Nat) : Rws w0 (w.setCell ⟨K.qb, j, none⟩ (.int .i64 (v : Int))) (PR K n el (upd pl j v) inn bl ++ rest) := by
  have := h.set 2 rfl j (.int .i64 (v : Int)); rw [flN_set] at this; exact this
theorem Rws.pSetIn (h : Rws w0 w (PR K n el pl inn bl ++ rest)) (j v : Nat) : Rws w0 (w.setCell ⟨K.ib, j, none⟩ (.int .i64 (v : Int))) (PR K n el pl (upd inn j v) bl ++ rest) := by
  have := h.set 3 rfl j (.int .i64 (v : Int)); rw [flN_set] at this; exact this
theorem Rws.pSetBl (h : Rws w0 w (PR K n el pl inn bl ++ rest)) {b : Nat} {x y : B3} (hb : bl[b]? = some x) (j : Nat) (v : Value) (hj : j < 3) (he : (encT x).set j v = encT y) : Rws w0 (w.setCell ⟨K.bb, b * 3 + j, none⟩ v) (PR K n el pl inn (bl.set b y) ++ rest) := by
  have := h.set 4 rfl (b * 3 + j) v; rw [flT_set j v hb hj he] at this
  have e : PR K n el pl inn (bl.set b y) = (PR K n el pl inn bl).set 4 ⟨229, 3, .slice (some ⟨K.bb, 0, none⟩) bl.length K.cb, bl.length, (bl.set b y).flatMap encT⟩ := by
    unfold PR; rw [List.length_set]; rfl
  rw [e]
  exact this
end

/-- A partition's world. -/
structure PW (w0 w : World) (K : PK) (n : Nat) (el pl inn : Nat → Nat) (bl : List B3) (rest : List Rw) : Prop where
  rws : Rws w0 w (PR K n el pl inn bl ++ rest)
  pi : PI n el pl inn bl
  n1 : n ≤ 1000
end Go.Proofs.YtopnedihknjjfaaGreatDoor

namespace Go.Proofs.YtopnedihknjjfaaGreatDoor
open Go.RowKit Pl

theorem bdrewP {w0 w : World} {B : Nat} (h : Below B w0 w) (n : Nat) : Below B w0 (w.drewN n) := ⟨h.os, h.tape, h.output, h.size, h.block⟩

section
variable {w0 w : World} {K : PK} {n : Nat} {el pl inn : Nat → Nat} {bl : List B3} {rest : List Rw}

set_option maxRecDepth 100000 in
theorem parOwn_any (w : World) (b : Nat) : Calls Tryz.prog 127 #[.pointer (some ⟨b, 0, none⟩)] w fun e w' => e = .returned (.pointer (some ⟨b, 0, none⟩)) ∧ w = w' := by
  go_enter Tryz.func127, Tryz.ntmps127
  go_wp2_with fail
  go_ret
  exact ⟨rfl, rfl⟩

set_option maxRecDepth 100000 in
theorem asked_ok (w : World) (b i n : Nat) (hi : i < n) : Calls Tryz.prog 157 #[.pointer (some ⟨b, 0, none⟩), .int .i64 i, .int .i64 n] w fun e w' => e = .returned .nilIface ∧ w = w' := by
  have h1 : ¬ (n : Int) ≤ (i : Int) := by omega
  go_enter Tryz.func157, Tryz.ntmps157
  go_wp2_with fail
  go_ret
  exact ⟨rfl, rfl⟩

set_option maxRecDepth 100000 in
theorem parSize_any (h : Rws w0 w (PR K n el pl inn bl ++ rest)) : Calls Tryz.prog 172 #[.pointer (some ⟨K.pb, 0, none⟩)] w fun e w' => e = .returned (.int .i64 n) ∧ w = w' := by
  obtain ⟨c0, c1, c2, c3⟩ := h.pCells
  have l0 := h.pLts.1
  clear h
  go_enter Tryz.func172, Tryz.ntmps172
  go_wp2_with fail
  refine (parOwn_any w K.pb).mono ?_
  rintro e w1 ⟨rfl, rfl⟩
  go_wp2_with fail
  go_ret
  exact ⟨rfl, rfl⟩

set_option maxRecDepth 100000 in
theorem parBlocks_any (h : Rws w0 w (PR K n el pl inn bl ++ rest)) : Calls Tryz.prog 154 #[.pointer (some ⟨K.pb, 0, none⟩)] w fun e w' => e = .returned (.int .i64 bl.length) ∧ w = w' := by
  obtain ⟨c0, c1, c2, c3⟩ := h.pCells
  have l0 := h.pLts.1
  obtain ⟨m, hm⟩ : ∃ m, m = bl.length := ⟨_, rfl⟩
  rw [← hm] at c3 ⊢
  clear h hm
  go_enter Tryz.func154, Tryz.ntmps154
  go_wp2_with fail
  refine (parOwn_any w K.pb).mono ?_
  rintro e w1 ⟨rfl, rfl⟩
  go_wp2_with fail
  go_ret
  exact ⟨rfl, rfl⟩

set_option maxRecDepth 100000 in
theorem parRow_any' (h : Rws w0 w (PR K n el pl inn bl ++ rest)) (_hn : n ≤ 1000) {b : Nat} {x : B3} (hx : bl[b]? = some x) (b1 : x.1 < x.2.1) (b2 : x.2.1 ≤ n) : Calls Tryz.prog 156 #[.pointer (some ⟨K.pb, 0, none⟩), .int .i64 b] w fun e w' =>
    e = .returned (.slice (some ⟨K.eb, x.1, none⟩) (x.2.1 - x.1) (x.2.1 - x.1)) ∧ Below w.heap.size w w' := by
  obtain ⟨c0, c1, c2, c3⟩ := h.pCells
  obtain ⟨l0, l1, l2, l3, l4⟩ := h.pLts
  obtain ⟨d0, d1, d2⟩ := h.pBl hx
  obtain ⟨k0, k1, k2, k3⟩ := h.pCaps
  have hbl := (List.getElem?_eq_some_iff.1 hx).1
  obtain ⟨m, hm⟩ : ∃ m, m = bl.length := ⟨_, rfl⟩
  rw [← hm] at c3 hbl
  obtain ⟨x1, x2, x3⟩ := x
  simp only at d0 d1 d2 b1 b2 ⊢
  have q1 : (b : Int) < (m : Int) := by omega
  have q2 : (x1 : Int) ≤ (x2 : Int) := by omega
  have q3 : (x2 : Int) ≤ (K.ce : Int) := by omega
  have q4 : x1 < x2 := by omega
  clear h hx hm k0 k1 k2 k3
  go_enter Tryz.func156, Tryz.ntmps156
  go_wp2_with fail
  go_quiet (fail)
  go_wp2_with fail
  go_ret
  exact ⟨rfl, bdrewP ((Below.refl _ _).alloc (Nat.le_refl _) _) _⟩

theorem parRow_any (h : PW w0 w K n el pl inn bl rest) {b : Nat} {x : B3} (hx : bl[b]? = some x) : Calls Tryz.prog 156 #[.pointer (some ⟨K.pb, 0, none⟩), .int .i64 b] w fun e w' =>
    e = .returned (.slice (some ⟨K.eb, x.1, none⟩) (x.2.1 - x.1) (x.2.1 - x.1)) ∧ Below w.heap.size w w' := by
  obtain ⟨b1, b2, b3⟩ := h.pi.blk b x hx
  exact parRow_any' h.rws h.n1 hx b1 b2

theorem rowE0 {el : Nat → Nat} {x : B3} (h : x.1 < x.2.1) : (elRow el x)[0]? = some (el x.1) := by
  unfold elRow
  obtain ⟨m, hm⟩ : ∃ m, x.2.1 - x.1 = m + 1 := ⟨x.2.1 - x.1 - 1, by omega⟩
  rw [hm]; simp [List.range'_succ]

set_option maxRecDepth 100000 in
theorem parFirst_any (h : PW w0 w K n el pl inn bl rest) {b : Nat} {x : B3} (hx : bl[b]? = some x) : Calls Tryz.prog 155 #[.pointer (some ⟨K.pb, 0, none⟩), .int .i64 b] w fun e w' =>
    e = .returned (.int .i64 (el x.1 : Int)) ∧ Below w.heap.size w w' := by
  obtain ⟨b1, b2, b3⟩ := h.pi.blk b x hx
  have HR := Lib.hid (parRow_any h hx)
  have H := Lib.hid h
  obtain ⟨x1, x2, x3⟩ := x
  simp only at b1 b2 b3 HR ⊢
  have q4 : 0 < x2 - x1 := by omega
  have q5 : x1 < n := by omega
  clear h hx b1 b2 b3
  go_enter Tryz.func155, Tryz.ntmps155
  go_wp2_with fail
  refine HR.out.mono ?_
  rintro e w1 ⟨rfl, hB⟩
  have h1 := H.out.rws.call hB
  have c0 := h1.pEl q5
  have l0 := h1.pLts.2.1
  have HB := Lib.hid hB
  clear h1 hB
  go_wp2_with fail
  go_ret
  exact ⟨rfl, HB.out⟩

set_option maxRecDepth 100000 in
theorem parLen_any (h : PW w0 w K n el pl inn bl rest) {b : Nat} {x : B3} (hx : bl[b]? = some x) : Calls Tryz.prog 125 #[.pointer (some ⟨K.pb, 0, none⟩), .int .i64 b] w fun e w' =>
    e = .returned (.int .i64 ((memN n inn b).length : Int)) ∧ Below w.heap.size w w' := by
  have HR := Lib.hid (parRow_any h hx)
  rw [h.pi.rowE_len hx]
  clear h hx
  go_enter Tryz.func125, Tryz.ntmps125
  go_wp2_with fail
  refine HR.out.mono ?_
  rintro e w1 ⟨rfl, hB⟩
  have HB := Lib.hid hB
  clear hB
  go_wp2_with fail
  go_ret
  exact ⟨rfl, HB.out⟩
end
end Go.Proofs.YtopnedihknjjfaaGreatDoor

namespace Go.Proofs.YtopnedihknjjfaaGreatDoor
open Go.RowKit Pl

section
variable {w0 w : World} {K : PK} {n : Nat} {el pl inn : Nat → Nat} {bl : List B3} {rest : List Rw}

set_option maxRecDepth 100000 in
set_option maxHeartbeats 2000000 in
theorem swap_any (h : Rws w0 w (PR K n el pl inn bl ++ rest)) {i k : Nat} (hi : i < n) (hk : k < n) (hei : el i < n) (hek : el k < n) :
    Calls Tryz.prog 173 #[.pointer (some ⟨K.pb, 0, none⟩), .int .i64 i, .int .i64 k] w fun e w' => e = .returned (.tuple #[]) ∧ Rws w0 w' (PR K n (swE el i k) (swP el pl i k) inn bl ++ rest) := by
  obtain ⟨c0, c1, c2, c3⟩ := h.pCells
  obtain ⟨l0, l1, l2, l3, l4⟩ := h.pLts
  have d1 := h.pEl hi; have d2 := h.pEl hk
  have f1 := (h.pFz i).2.1; have f2 := (h.pFz k).2.1
  obtain ⟨n1, n2, n3, n4, n5, n6, n7, n8, n9, n10⟩ := h.pNe
  obtain ⟨a, ha⟩ : ∃ a, a = el i := ⟨_, rfl⟩
  obtain ⟨b, hb⟩ : ∃ b, b = el k := ⟨_, rfl⟩
  have hiI : (i : Int) < (n : Int) := by omega
  have hkI : (k : Int) < (n : Int) := by omega
  have haI : (a : Int) < (n : Int) := by omega
  have hbI : (b : Int) < (n : Int) := by omega
  have h1 : Rws w0 ((w.setCell ⟨K.eb, i, none⟩ (.int .i64 (b : Int))).setCell ⟨K.eb, k, none⟩ (.int .i64 (a : Int))).drew (PR K n (swE el i k) pl inn bl ++ rest) := by
    have := ((h.pSetEl i b).pSetEl k a).drew
    rw [ha, hb] at this ⊢
    exact this
  have g1 : swE el i k i = b := by
    unfold swE upd
    by_cases e : i = k
    · subst e; simp [hb]
    · simp [e, hb]
  have g2 : swE el i k k = a := by unfold swE upd; simp [ha]
  rw [← ha] at d1; rw [← hb] at d2
  have d3 := (h.pSetEl i b).pEl hk
  have f3 := ((h.pSetEl i b).pFz k).2.1
  obtain ⟨u, hu⟩ : ∃ u, u = upd el i b k := ⟨_, rfl⟩
  rw [← hu] at d3
  have H1 := Lib.hid h1; have G1 := Lib.hid g1; have G2 := Lib.hid g2
  have HA := Lib.hid ha; have HB := Lib.hid hb
  have han : a < n := by omega
  have hbn : b < n := by omega
  clear h h1 g1 g2 ha hb hei hek c1 c2 c3 hu
  go_enter Tryz.func173, Tryz.ntmps173
  go_wp2_with fail
  go_region
  obtain ⟨W, hW⟩ : ∃ W, W = ((w.setCell ⟨K.eb, i, none⟩ (.int .i64 (b : Int))).setCell ⟨K.eb, k, none⟩ (.int .i64 (a : Int))).drew := ⟨_, rfl⟩
  rw [← hW] at H1 ⊢
  clear hW c0 l0 l1 l2 l3 l4 d1 d2 d3 f1 f2 f3
  obtain ⟨c0, c1, c2, c3⟩ := H1.out.pCells
  obtain ⟨l0, l1, l2, l3, l4⟩ := H1.out.pLts
  have d1 := H1.out.pEl hi; have d2 := H1.out.pEl hk
  rw [G1.out] at d1; rw [G2.out] at d2
  have e1 := H1.out.pPl han; have e2 := H1.out.pPl hbn
  have f1 := (H1.out.pFz a).2.2.1; have f2 := (H1.out.pFz b).2.2.1
  have e3 := (H1.out.pSetPl b i).pPl han
  have f3 := ((H1.out.pSetPl b i).pFz a).2.2.1
  obtain ⟨v, hv⟩ : ∃ v, v = upd pl b i a := ⟨_, rfl⟩
  rw [← hv] at e3
  have h2 : Rws w0 ((W.setCell ⟨K.qb, b, none⟩ (.int .i64 (i : Int))).setCell ⟨K.qb, a, none⟩ (.int .i64 (k : Int))).drew (PR K n (swE el i k) (swP el pl i k) inn bl ++ rest) := by
    unfold swP
    rw [← HA.out, ← HB.out]
    exact ((H1.out.pSetPl b i).pSetPl a k).drew
  have H2 := Lib.hid h2
  clear c2 c3 l3 l4 hv h2 H1 HA HB G1 G2
  go_wp2_with fail
  go_region
  go_end0
  exact ⟨rfl, H2.out⟩
end
end Go.Proofs.YtopnedihknjjfaaGreatDoor
