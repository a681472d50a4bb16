/-
  Plain: two strictly sorted lists laid into one, each element once (the reference's way of sorting).
  The frame of the cards: the world of the witness, the package-level error, how arguments open.
  How an api.System that came in opens: three numbers and a list of edges.
  What a row's list of package-level variables gives: a sentinel, the handle of 'error'.
  What the list deBruijn64tab, errorType, ErrArg, ErrLong, ErrIndex, ErrEdges, ErrSystem, errGreat of a row gives; a world for the witness.
-/
import Derived.Test.YtdhloijdefnkpaaGreatDoorGPl2
import Derived.Test.YtdhloijdefnkpaaGreatDoorCards
import Derived.Test.YtdhloijdefnkpaaGreatDoorTie
import Derived.Test.YtdhloijdefnkpaaGreatDoorGFault
import Derived.ProofKit
import Derived.OpenShut
import Derived.Deep.DeepHandedRow
import Derived.Deep.DeepWitnessRowRef
import Derived.Lib.LaidIn
import Derived.Stop.LaidErr
import Derived.Lib.SmallJoins
import Derived.Test.YtdhloijdefnkpaaGreatDoorAs
import Derived.LaidHandle
import Derived.Test.YtdhloijdefnkpaaGreatDoorGWkC
import Derived.Test.YtdhloijdefnkpaaGreatDoorWkB
import Derived.Stop.LaidTwo
import Derived.Lib.LaidTab
import Derived.Lib.ItoaNum
namespace Go.Proofs.YtdhloijdefnkpaaGreatDoor
namespace Pl

/-- One element more behind, unless it is the last one already. -/
def pushL (out : List E) (e : E) : List E := if out.getLast? = some e then out else out ++ [e]

structure Mrg (a b out : List E) (i k : Nat) : Prop where
  srt : Srt ltE out
  mem : ∀ x, x ∈ out ↔ x ∈ a.take i ∨ x ∈ b.take k
  la : ∀ o ∈ out, ∀ x ∈ a.drop i, ltE x o = false
  lb : ∀ o ∈ out, ∀ x ∈ b.drop k, ltE x o = false

theorem Mrg.nil (a b : List E) : Mrg a b [] 0 0 := ⟨by simp [Srt], by simp, by simp, by simp⟩

theorem srt_pushL {out : List E} {e : E} (h : Srt ltE out) (he : ∀ o ∈ out, ltE e o = false) : Srt ltE (pushL out e) ∧ ∀ x, x ∈ pushL out e ↔ x ∈ out ∨ x = e := by
  unfold pushL
  by_cases hl : out.getLast? = some e
  · rw [if_pos hl]
    have hm : e ∈ out := List.mem_of_getLast? hl
    exact ⟨h, fun x => ⟨.inl, fun hx => by rcases hx with hx | rfl; exact hx; exact hm⟩⟩
  · rw [if_neg hl]
    refine ⟨?_, fun x => by simp⟩
    unfold Srt at *
    rw [List.pairwise_append]
    refine ⟨h, by simp, fun o ho x hx => ?_⟩
    simp at hx; subst hx
    -- o is the last, or ahead of the last
    obtain ⟨l, z, rfl⟩ : ∃ l z, out = l ++ [z] := by
      rcases List.eq_nil_or_concat out with rfl | ⟨l, z, hz⟩
      · simp at ho
      · exact ⟨l, z, by simpa using hz⟩
    have hz : z ≠ x := by rintro rfl; simp at hl
    have hzx : ltE z x = true := by
      rcases stoE.total z x with h1 | h1 | h1
      · exact h1
      · exact absurd h1 hz
      · rw [he z (by simp)] at h1; cases h1
    rcases List.mem_append.1 ho with h1 | h1
    · have := (List.pairwise_append.1 h).2.2 o h1 z (by simp)
      exact stoE.trans _ _ _ this hzx
    · simp at h1; subst h1; exact hzx

theorem asymE {a b : E} (h : ltE a b = true) : ltE b a = false := by
  rw [Bool.eq_false_iff]; intro h2
  have := stoE.trans _ _ _ h h2
  rw [stoE.irrefl] at this; cases this

/-- What is not above the head of a sorted list is above nothing of it. -/
theorem notBelow {b : List E} {k : Nat} {x e : E} (h : Srt ltE b) (hk : b[k]? = some x) (hx : ltE x e = false) : ∀ y ∈ b.drop k, ltE y e = false := by
  intro y hy
  obtain ⟨j, hj⟩ := List.getElem?_of_mem hy
  rw [List.getElem?_drop] at hj
  by_cases h0 : j = 0
  · subst h0; rw [Nat.add_zero, hk] at hj; cases hj; exact hx
  · obtain ⟨h1, e1⟩ := List.getElem?_eq_some_iff.1 hk
    obtain ⟨h2, e2⟩ := List.getElem?_eq_some_iff.1 hj
    have := List.pairwise_iff_getElem.1 h k (k + j) h1 h2 (by omega)
    rw [e1, e2] at this
    rw [Bool.eq_false_iff]; intro h3
    rw [stoE.trans _ _ _ this h3] at hx; cases hx

theorem Mrg.pushA {a b out : List E} {i k : Nat} {e : E} (h : Mrg a b out i k) (ha : Srt ltE a) (hi : a[i]? = some e) (hb : ∀ y ∈ b.drop k, ltE y e = false) : Mrg a b (pushL out e) (i + 1) k := by
  obtain ⟨hil, hie⟩ := List.getElem?_eq_some_iff.1 hi
  have hd : a.drop i = e :: a.drop (i + 1) := by rw [List.drop_eq_getElem_cons hil, hie]
  have hlo : ∀ o ∈ out, ltE e o = false := fun o ho => h.la o ho e (by rw [hd]; simp)
  obtain ⟨h1, h2⟩ := srt_pushL h.srt hlo
  refine ⟨h1, fun x => ?_, fun o ho x hx => ?_, fun o ho x hx => ?_⟩
  · rw [h2, h.mem, List.take_succ_eq_append_getElem hil, hie, List.mem_append, List.mem_singleton]
    constructor
    · rintro ((h | h) | h)
      · exact .inl (.inl h)
      · exact .inr h
      · exact .inl (.inr h)
    · rintro ((h | h) | h)
      · exact .inl (.inl h)
      · exact .inr h
      · exact .inl (.inr h)
  · rcases (h2 o).1 ho with h3 | rfl
    · exact h.la o h3 x (by rw [hd]; simp [hx])
    · have hs : Srt ltE (a.drop i) := List.Pairwise.drop ha
      rw [hd] at hs
      exact asymE ((List.pairwise_cons.1 hs).1 x hx)
  · rcases (h2 o).1 ho with h3 | rfl
    · exact h.lb o h3 x hx
    · exact hb x hx

theorem Mrg.swap {a b out : List E} {i k : Nat} (h : Mrg a b out i k) : Mrg b a out k i := ⟨h.srt, fun x => by rw [h.mem]; exact Or.comm, h.lb, h.la⟩
theorem Mrg.pushB {a b out : List E} {i k : Nat} {e : E} (h : Mrg a b out i k) (hb : Srt ltE b) (hi : b[k]? = some e) (ha : ∀ y ∈ a.drop i, ltE y e = false) : Mrg a b (pushL out e) i (k + 1) :=
  (h.swap.pushA hb hi ha).swap

theorem Mrg.done {a b out l : List E} (h : Mrg a b out a.length b.length) (hm : ∀ x, x ∈ l ↔ x ∈ a ∨ x ∈ b) : out = nf ltE l :=
  eq_nf stoE h.srt (fun x => by rw [h.mem, List.take_length, List.take_length, hm])

theorem Mrg.len {a b out : List E} {i k : Nat} {e : E} : (pushL out e).length ≤ out.length + 1 := by
  unfold pushL; split <;> simp

theorem half_mem (l : List E) (m : Nat) (x : E) : x ∈ l ↔ x ∈ nf ltE (l.take m) ∨ x ∈ nf ltE (l.drop m) := by
  rw [mem_nf stoE, mem_nf stoE, ← List.mem_append, List.take_append_drop]

theorem nf_short {l : List E} (h : l.length < 2) : nf ltE l = l := by
  match l, h with
  | [], _ => rfl
  | [x], _ => rfl
  | _ :: _ :: _, h => simp at h; omega

end Pl
end Go.Proofs.YtdhloijdefnkpaaGreatDoor

namespace Go.Proofs.YtdhloijdefnkpaaGreatDoor
open Go.ChangeShapes Go.WideShapes Go.ChangeAt Go.RowKit Go.Lib

theorem ownKnob_none : ownKnob Tryz.prog.godebug = none := by kernel_rfl
theorem prog_laidOut : laidOutB Tryz.prog = true := by kernel_rfl

def sysText : List UInt8 := [97, 32, 115, 121, 115, 116, 101, 109, 32, 116, 104, 97, 116, 32, 105, 115, 32, 110, 111, 110, 101]

/-- A WORLD FOR THE WITNESS: the settled one, one block more: the error's struct; the variable holding its pointer. -/
noncomputable def laidWorld (os : Os) : World :=
  let N := (World.settled Tryz.prog os).heap.size
  let w0 := World.holding Tryz.prog os ⟨#[.cells #[.string ⟨sysText.toArray⟩] 303], #[], []⟩
  { w0 with heap := w0.heap.modify 1 fun
      | .cells _ t frozen => .cells #[.iface 285 (.pointer (some ⟨N, 0, none⟩))] t frozen
      | o => o }
noncomputable abbrev nBlock : Nat := (World.settled Tryz.prog default).heap.size
theorem laidIn_sys (os : Os) (args : Array Value) : LaidIn Tryz.prog ((laidWorld os).forCall (fun _ _ => 0) ⟨#[], args, []⟩).memory [("semblance/api.ErrSystem", Rows.laid_semblance_api_ErrSystem)] [1, nBlock] :=
  LaidIn.of_run [1, nBlock] 8 (by kernel_rfl) (by kernel_rfl) (by kernel_rfl) (by kernel_rfl)
theorem laid_met (os : Os) (args : Array Value) : laidMet Tryz.prog [("semblance/api.ErrSystem", Rows.laid_semblance_api_ErrSystem)] ((laidWorld os).forCall (fun _ _ => 0) ⟨#[], args, []⟩).memory :=
  (laidIn_sys os args).met

theorem star_es : "*" ++ "errors.errorString" = "*errors.errorString" := by decide
theorem row_es (u : TypeId) (h : Tryz.prog.typeName? 3 u = some "*errors.errorString") : u = 285 :=
  typeName_ptr_named (nm := "errors.errorString") (by rw [star_es]; kernel_rfl) (by kernel_rfl) (by decide) u (by rw [star_es]; exact h)

/-- WHAT THE ROW's LIST GIVES: the variable holds a pointer. -/
theorem gerr_sys {r : List (String × DataW Unit)} {W : World} (h : laidMet Tryz.prog (("semblance/api.ErrSystem", Rows.laid_semblance_api_ErrSystem) :: r) W) : ∃ p, GErr 1 p W := by
  obtain ⟨a, s, hv, hc, _, _⟩ := laid_sentinel (g := 1) h (by kernel_rfl) (by kernel_rfl) Tryz.underlying28 row_es Tryz.underlying285 Tryz.underlying303 rfl rfl Tryz.underlying9 (by kernel_rfl) (by kernel_rfl)
  have hcell := World.var?_cell (g := 1) (by kernel_rfl) hv 0
  have hcell : W.cell? ⟨1, 0, none⟩ = some (.iface 285 (.pointer (some a))) := by simpa using hcell
  exact ⟨a, World.block_lt_of_cell? _ _ hcell, hcell⟩

/-- A list of numbers that came in. -/
theorem open_intList {H : Type} {enc : TypeId × Value → H} {W : World} {fuel : Nat} {a : Option Addr} {n c : Nat} {x : DataW H × List MemPlace}
    (h : DataW.trod enc Tryz.prog W 0 (fun _ => true) true fuel 33 [.slice a n c] = some x) :
    ∃ (b off : Nat) (xs : List Int), n = xs.length ∧ xs.length ≤ maxLen ∧ SlAt encI 1 W a b off xs ∧ ∀ y ∈ xs, (Lit.int .i64 y).wf = true := by
  rcases open_ints Tryz.underlying33 Tryz.underlying3 (by kernel_rfl) h with ⟨hcs, _⟩ | ⟨ad, len, cap, zs, hcs, _, hl, hm, hz, _, hcell, hw⟩
  · simp at hcs
    obtain ⟨rfl, rfl, rfl⟩ := hcs
    exact ⟨0, 0, [], rfl, by simp, slAt_nil _ _ _ _, by simp⟩
  · simp at hcs
    obtain ⟨rfl, rfl, rfl⟩ := hcs
    simp only [if_true] at hz
    obtain ⟨b, off, spot⟩ := ad
    refine ⟨b, off, zs.take n, by simp; omega, by simp; omega, ?_, fun y hy => hw y (List.mem_of_mem_take hy)⟩
    have hcl : 0 < n → spot = none ∧ b < W.heap.size := by
      intro h0
      have hc0 := hcell 0 (by omega)
      have hspot : spot = none := by simpa [Addr.add] using World.cell?_spot hc0
      subst hspot
      exact ⟨rfl, World.block_lt_of_cell? _ _ hc0⟩
    refine ⟨fun hp => ?_, fun hp => (hcl (by simp at hp; omega)).2, fun i y hy j u hu => ?_⟩
    · obtain ⟨rfl, _⟩ := hcl (by simp at hp; omega)
      rfl
    · have hi : i < n := by have := (List.getElem?_eq_some_iff.1 hy).1; simp at this; omega
      obtain ⟨rfl, _⟩ := hcl (by omega)
      match j, hu with
      | 0, hu =>
        simp [encI] at hu; subst hu
        rw [List.getElem?_take_of_lt hi] at hy
        have := hcell i (by omega)
        rw [List.getD_eq_getElem?_getD, hy, Go.WideShapes.add_plain] at this
        simpa using this
end Go.Proofs.YtdhloijdefnkpaaGreatDoor

namespace Go.Proofs.YtdhloijdefnkpaaGreatDoor
open Go.ChangeShapes Go.WideShapes Go.ChangeAt Go.RowKit Go.Lib Go.Deep Pl

theorem cellsInt : Tryz.prog.cellsOf 3 = 1 := by kernel_rfl
theorem cellsEdge : Tryz.prog.cellsOf 35 = 3 := by kernel_rfl

def wfE (x : E) : Prop := (Lit.int .i64 x.1).wf = true ∧ (Lit.int .i64 x.2.1).wf = true ∧ (Lit.int .i64 x.2.2).wf = true

set_option maxRecDepth 100000 in
theorem open_edge {H : Type} {enc : TypeId × Value → H} {W : World} {fuel : Nat} {cs : List Value} {x : DataW H × List MemPlace}
    (h : DataW.trod enc Tryz.prog W 0 (fun _ => true) true fuel 35 cs = some x) : ∃ e : E, cs = encE e ∧ wfE e := by
  obtain ⟨y0, y1, y2, n, _, hl, h0, h1, h2⟩ := trod_struct3 Tryz.underlying35 h
  rw [cellsEdge] at hl
  match cs, hl with
  | [c0, c1, c2], _ =>
    simp only [cellsInt] at h0 h1 h2
    obtain ⟨a0, e0, _, w0⟩ := DataW.trod_int Tryz.underlying3 h0
    obtain ⟨a1, e1, _, w1⟩ := DataW.trod_int Tryz.underlying3 h1
    obtain ⟨a2, e2, _, w2⟩ := DataW.trod_int Tryz.underlying3 h2
    simp at e0 e1 e2
    subst e0 e1 e2
    exact ⟨(a0, a1, a2), rfl, w0, w1, w2⟩

set_option maxRecDepth 100000 in
/-- A list of edges that came in. -/
theorem open_edges {H : Type} {enc : TypeId × Value → H} {W : World} {fuel : Nat} {v : Value} {x : DataW H × List MemPlace}
    (h : DataW.trod enc Tryz.prog W 0 (fun _ => true) true fuel 22 [v] = some x) :
    ∃ (a : Option Addr) (c b off : Nat) (es : List E), v = .slice a es.length c ∧ es.length ≤ maxLen ∧ SlAt encE 3 W a b off es ∧ (∀ y ∈ es, wfE y) ∧ es.length ≤ c ∧ c ≤ maxLen := by
  rcases open_slice Tryz.underlying22 h with ⟨hcs, _⟩ | ⟨ad, len, cap, m, n, D, Pls, hcs, _, hl, hm, hmm, _, hi⟩
  · simp at hcs
    subst hcs
    exact ⟨none, 0, 0, 0, [], rfl, by simp, slAt_nil _ _ _ _, by simp, by simp, by simp⟩
  · simp at hcs
    subst hcs
    simp only [if_true] at hmm
    rw [cellsEdge] at hi
    have hex : ∀ i : Nat, ∃ e : E, i < m → wfE e ∧ ∀ j u, (encE e)[j]? = some u → W.cell? (ad.add (i * 3 + j)) = some u := by
      intro i
      by_cases him : i < m
      · obtain ⟨cs', hc, ht⟩ := hi i him
        obtain ⟨e, rfl, hw⟩ := open_edge ht
        obtain ⟨_, hcl, hat⟩ := World.cells?_some hc
        refine ⟨e, fun _ => ⟨hw, fun j u hu => ?_⟩⟩
        have hj : j < 3 := by have := (List.getElem?_eq_some_iff.1 hu).1; simpa [encE] using this
        rw [← Go.Deep.add_add, hat j hj, hu]
      · exact ⟨(0, 0, 0), fun h => absurd h him⟩
    obtain ⟨f, hf⟩ := Classical.axiomOfChoice hex
    obtain ⟨b, off, spot⟩ := ad
    have hcl : 0 < len → spot = none ∧ b < W.heap.size := by
      intro h0
      have hc0 := (hf 0 (by omega)).2 0 _ rfl
      have hspot : spot = none := by simpa [Addr.add] using World.cell?_spot hc0
      subst hspot
      exact ⟨rfl, World.block_lt_of_cell? _ _ hc0⟩
    refine ⟨some ⟨b, off, spot⟩, cap, b, off, (List.range len).map f, by simp, by simp; omega, ⟨fun hp => ?_, fun hp => (hcl (by simpa using hp)).2, fun i y hy j u hu => ?_⟩, ?_, by simp; omega, by omega⟩
    · obtain ⟨rfl, _⟩ := hcl (by simpa using hp); rfl
    · have hil : i < len := by have := (List.getElem?_eq_some_iff.1 hy).1; simpa using this
      obtain ⟨rfl, _⟩ := hcl (by omega)
      have hy' : y = f i := by simp [hil] at hy; exact hy.symm
      subst hy'
      have := (hf i (by omega)).2 j u hu
      rw [Go.WideShapes.add_plain, ← Nat.add_assoc] at this
      exact this
    · intro y hy
      obtain ⟨i, hi', rfl⟩ := List.mem_map.1 hy
      rw [List.mem_range] at hi'
      exact (hf i (by omega)).1

set_option maxRecDepth 100000 in
/-- A system that came in. -/
theorem open_sys {H : Type} {enc : TypeId × Value → H} {W : World} {r : Reach} {b0 : Nat} {v : Value} {d : DataW H} {p : List MemPlace}
    (hv : Value.okWide Tryz.prog W r b0 24 v) (h : DataW.Trod enc Tryz.prog W 0 (fun _ => true) true 24 v d p) :
    ∃ (s : Lts) (a : Option Addr) (c b off : Nat), v = .agg #[.int .i64 s.st, .int .i64 s.lb, .int .i64 s.s0, .slice a s.es.length c] ∧ s.es.length ≤ maxLen ∧ SlAt encE 3 W a b off s.es ∧
      (∀ y ∈ s.es, wfE y) ∧ (Lit.int .i64 s.st).wf = true ∧ (Lit.int .i64 s.lb).wf = true ∧ (Lit.int .i64 s.s0).wf = true ∧ s.es.length ≤ c ∧ c ≤ maxLen := by
  obtain ⟨v0, v1, v2, v3, y0, y1, y2, y3, n, rfl, _, _, h0, h1, h2, h3⟩ := Go.Joins.open_agg4 Tryz.underlying24 (by kernel_rfl) (by kernel_rfl) hv h
  obtain ⟨a0, e0, _, w0⟩ := DataW.trod_int Tryz.underlying3 h0
  obtain ⟨a1, e1, _, w1⟩ := DataW.trod_int Tryz.underlying3 h1
  obtain ⟨a2, e2, _, w2⟩ := DataW.trod_int Tryz.underlying3 h2
  obtain ⟨a, c, b, off, es, rfl, hl, hS, hw, hc1, hc2⟩ := open_edges h3
  simp at e0 e1 e2
  subst e0 e1 e2
  exact ⟨⟨a0, a1, a2, es⟩, a, c, b, off, rfl, hl, hS, hw, w0, w1, w2, hc1, hc2⟩

end Go.Proofs.YtdhloijdefnkpaaGreatDoor

namespace Go.Proofs.YtdhloijdefnkpaaGreatDoor
open Go.ChangeShapes Go.WideShapes Go.ChangeAt Go.RowKit Go.Lib

theorem laidVars_subl {P : Program} {w : World} {l' l : List (String × DataW Unit)} (h : l'.Sublist l) : ∀ {ps : List MemPlace}, DataW.LaidVars P w l ps → ∃ ps', DataW.LaidVars P w l' ps' ∧ ps'.Sublist ps := by
  induction h with
  | slnil => intro ps hv; exact ⟨ps, hv, List.Sublist.refl _⟩
  | cons a _ ih =>
    intro ps hv
    obtain ⟨n, d⟩ := a
    obtain ⟨g, t, cs, fuel, p, q, _, _, _, _, hq, rfl⟩ := hv
    obtain ⟨ps', h1, h2⟩ := ih hq
    exact ⟨ps', h1, h2.trans (List.sublist_append_right _ _)⟩
  | cons_cons a _ ih =>
    intro ps hv
    obtain ⟨n, d⟩ := a
    obtain ⟨g, t, cs, fuel, p, q, h1, h2, h3, h4, hq, rfl⟩ := hv
    obtain ⟨ps', h5, h6⟩ := ih hq
    exact ⟨_, ⟨g, t, cs, fuel, p, ps', h1, h2, h3, h4, h5, rfl⟩, List.Sublist.append (List.Sublist.refl _) h6⟩
theorem laidMet_subl {P : Program} {w : World} {l' l : List (String × DataW Unit)} (hs : l'.Sublist l) (h : laidMet P l w) : laidMet P l' w := by
  obtain ⟨ps, hv, hnd, hrows⟩ := h
  obtain ⟨ps', h1, h2⟩ := laidVars_subl hs hv
  exact ⟨ps', h1, hnd.sublist h2, fun b off hm => hrows b off (h2.subset hm)⟩

/-- A sentinel: its variable holds a pointer. -/
theorem gerr_of {n : String} {g : Nat} {text : List UInt8} {W : World} (h : laidMet Tryz.prog [(n, .iface "*errors.errorString" (.ptr (.agg [.lit (.string text)])))] W)
    (hg : Tryz.prog.globalNamed n = some g) (ht : (Tryz.prog.globals[g]?).map (·.type) = some 28) : ∃ p, GErr g p W := by
  obtain ⟨a, s, hv, hc, _, _⟩ := laid_sentinel (g := g) h hg ht Tryz.underlying28 row_es Tryz.underlying285 Tryz.underlying303 rfl rfl Tryz.underlying9 (by kernel_rfl) (by kernel_rfl)
  have hcell := World.var?_cell (g := g) hg hv 0
  have hcell : W.cell? ⟨g, 0, none⟩ = some (.iface 285 (.pointer (some a))) := by simpa using hcell
  exact ⟨a, World.block_lt_of_cell? _ _ hcell, hcell⟩

theorem et_named : Tryz.prog.globalNamed "errors.errorType" = some 21 := by kernel_rfl
theorem et_rt : (Tryz.prog.cutTypes.find? (·.1 == "internal/reflectlite.rtype")).map (·.2) = some 144 := by kernel_rfl
theorem et_rows : ((List.range 315).filter fun t => Tryz.prog.rowNamed t [101, 114, 114, 111, 114]) = [28] := by kernel_rfl
theorem et_size : Tryz.prog.types.size = 315 := by kernel_rfl

/-- The handle of 'error'. -/
theorem errType_of {W : World} (h : handlesMet Tryz.prog [("errors.errorType", Rows.laid_errors_errorType)] W) : ErrType W := by
  obtain ⟨name, u, ty, e1, e2, e3, e4, e5⟩ := h _ (List.mem_singleton.2 rfl)
  have en : name = [101, 114, 114, 111, 114] := (Option.some.inj e1).symm
  subst en
  obtain rfl := Option.some.inj (et_rt.symm.trans e2)
  have hm : ty ∈ (List.range 315).filter fun t => Tryz.prog.rowNamed t [101, 114, 114, 111, 114] := List.mem_filter.2 ⟨List.mem_range.2 (by rw [← et_size]; exact e3), e4⟩
  rw [et_rows] at hm
  obtain rfl := List.mem_singleton.1 hm
  have hh : typeHandle Tryz.prog 28 = .pointer (some ⟨24, 28, none⟩) := by kernel_rfl
  rw [hh] at e5
  exact ⟨by simpa using World.var?_cell et_named e5 0⟩
end Go.Proofs.YtdhloijdefnkpaaGreatDoor

namespace Go.Proofs.YtdhloijdefnkpaaGreatDoor
open Go.ChangeShapes Go.WideShapes Go.ChangeAt Go.RowKit Go.Lib

def laidWst : List (String × DataW Unit) := [("math/bits.deBruijn64tab", Rows.laid_math_bits_deBruijn64tab), ("errors.errorType", Rows.laid_errors_errorType), ("semblance/api.ErrArg", Rows.laid_semblance_api_ErrArg), ("semblance/api.ErrLong", Rows.laid_semblance_api_ErrLong), ("semblance/api.ErrIndex", Rows.laid_semblance_api_ErrIndex), ("semblance/api.ErrEdges", Rows.laid_semblance_api_ErrEdges), ("semblance/api.ErrSystem", Rows.laid_semblance_api_ErrSystem), ("semblance/weak.errGreat", Rows.laid_semblance_weak_errGreat)]
noncomputable def laidWorldWst (os : Os) : World :=
  let N := (World.settled Tryz.prog os).heap.size
  let w0 := World.holding Tryz.prog os ⟨#[.cells #[.string ⟨([97, 110, 32, 97, 114, 103, 117, 109, 101, 110, 116, 32, 116, 104, 97, 116, 32, 99, 97, 110, 39, 116, 32, 98, 101] : List UInt8).toArray⟩] 303, .cells #[.string ⟨([116, 111, 111, 32, 108, 111, 110, 103, 44, 32, 111, 114, 32, 116, 111, 111, 32, 109, 97, 110, 121] : List UInt8).toArray⟩] 303, .cells #[.string ⟨([97, 32, 110, 117, 109, 98, 101, 114, 32, 116, 104, 97, 116, 32, 105, 115, 32, 110, 111, 116, 32, 116, 104, 101, 114, 101] : List UInt8).toArray⟩] 303, .cells #[.string ⟨([116, 111, 111, 32, 109, 97, 110, 121, 32, 101, 100, 103, 101, 115] : List UInt8).toArray⟩] 303, .cells #[.string ⟨([97, 32, 115, 121, 115, 116, 101, 109, 32, 116, 104, 97, 116, 32, 105, 115, 32, 110, 111, 110, 101] : List UInt8).toArray⟩] 303, .cells #[.string ⟨([97, 32, 115, 121, 115, 116, 101, 109, 32, 116, 104, 97, 116, 32, 105, 115, 32, 116, 111, 111, 32, 103, 114, 101, 97, 116] : List UInt8).toArray⟩] 303], #[], []⟩
  let put := fun (h : Array Obj) (g : Nat) (cs : Array Value) => h.modify g fun
      | .cells _ t frozen => .cells cs t frozen
      | o => o
  { w0 with heap := put (put (put (put (put (put (put (put (w0.heap) 13 #[.int .u8 0, .int .u8 1, .int .u8 56, .int .u8 2, .int .u8 57, .int .u8 49, .int .u8 28, .int .u8 3, .int .u8 61, .int .u8 58, .int .u8 42, .int .u8 50, .int .u8 38, .int .u8 29, .int .u8 17, .int .u8 4, .int .u8 62, .int .u8 47, .int .u8 59, .int .u8 36, .int .u8 45, .int .u8 43, .int .u8 51, .int .u8 22, .int .u8 53, .int .u8 39, .int .u8 33, .int .u8 30, .int .u8 24, .int .u8 18, .int .u8 12, .int .u8 5, .int .u8 63, .int .u8 55, .int .u8 48, .int .u8 27, .int .u8 60, .int .u8 41, .int .u8 37, .int .u8 16, .int .u8 46, .int .u8 35, .int .u8 44, .int .u8 21, .int .u8 52, .int .u8 32, .int .u8 23, .int .u8 11, .int .u8 54, .int .u8 26, .int .u8 40, .int .u8 15, .int .u8 34, .int .u8 20, .int .u8 31, .int .u8 10, .int .u8 25, .int .u8 14, .int .u8 19, .int .u8 9, .int .u8 13, .int .u8 8, .int .u8 7, .int .u8 6]) 21 #[.iface 144 (.agg #[.pointer (some ⟨24, 28, none⟩)])]) 5 #[.iface 285 (.pointer (some ⟨N + 0, 0, none⟩))]) 4 #[.iface 285 (.pointer (some ⟨N + 1, 0, none⟩))]) 2 #[.iface 285 (.pointer (some ⟨N + 2, 0, none⟩))]) 0 #[.iface 285 (.pointer (some ⟨N + 3, 0, none⟩))]) 1 #[.iface 285 (.pointer (some ⟨N + 4, 0, none⟩))]) 3 #[.iface 285 (.pointer (some ⟨N + 5, 0, none⟩))] }
theorem laidInWst (os : Os) (args : Array Value) : LaidIn Tryz.prog ((laidWorldWst os).forCall (fun _ _ => 0) ⟨#[], args, []⟩).memory [("math/bits.deBruijn64tab", Rows.laid_math_bits_deBruijn64tab), ("semblance/api.ErrArg", Rows.laid_semblance_api_ErrArg), ("semblance/api.ErrLong", Rows.laid_semblance_api_ErrLong), ("semblance/api.ErrIndex", Rows.laid_semblance_api_ErrIndex), ("semblance/api.ErrEdges", Rows.laid_semblance_api_ErrEdges), ("semblance/api.ErrSystem", Rows.laid_semblance_api_ErrSystem), ("semblance/weak.errGreat", Rows.laid_semblance_weak_errGreat)] [13, 5, 4, 2, 0, 1, 3, nBlock + 0, nBlock + 1, nBlock + 2, nBlock + 3, nBlock + 4, nBlock + 5] :=
  LaidIn.of_run [13, 5, 4, 2, 0, 1, 3, nBlock + 0, nBlock + 1, nBlock + 2, nBlock + 3, nBlock + 4, nBlock + 5] 8 (by kernel_rfl) (by kernel_rfl) (by kernel_rfl) (by kernel_rfl)
theorem laid_metWst (os : Os) (args : Array Value) : laidMetH Tryz.prog laidWst ((laidWorldWst os).forCall (fun _ _ => 0) ⟨#[], args, []⟩).memory :=
  laidMetH_of_parts (laidInWst os args).met (by kernel_rfl)
theorem laidWst_data {W : World} (h : laidMetH Tryz.prog laidWst W) : laidMet Tryz.prog [("math/bits.deBruijn64tab", Rows.laid_math_bits_deBruijn64tab), ("semblance/api.ErrArg", Rows.laid_semblance_api_ErrArg), ("semblance/api.ErrLong", Rows.laid_semblance_api_ErrLong), ("semblance/api.ErrIndex", Rows.laid_semblance_api_ErrIndex), ("semblance/api.ErrEdges", Rows.laid_semblance_api_ErrEdges), ("semblance/api.ErrSystem", Rows.laid_semblance_api_ErrSystem), ("semblance/weak.errGreat", Rows.laid_semblance_weak_errGreat)] W := (show laidMet Tryz.prog [("math/bits.deBruijn64tab", Rows.laid_math_bits_deBruijn64tab), ("semblance/api.ErrArg", Rows.laid_semblance_api_ErrArg), ("semblance/api.ErrLong", Rows.laid_semblance_api_ErrLong), ("semblance/api.ErrIndex", Rows.laid_semblance_api_ErrIndex), ("semblance/api.ErrEdges", Rows.laid_semblance_api_ErrEdges), ("semblance/api.ErrSystem", Rows.laid_semblance_api_ErrSystem), ("semblance/weak.errGreat", Rows.laid_semblance_weak_errGreat)] W ∧ handlesMet Tryz.prog [("errors.errorType", Rows.laid_errors_errorType)] W from h).1
theorem laidWst_errType {W : World} (h : laidMetH Tryz.prog laidWst W) : ErrType W := errType_of (show laidMet Tryz.prog [("math/bits.deBruijn64tab", Rows.laid_math_bits_deBruijn64tab), ("semblance/api.ErrArg", Rows.laid_semblance_api_ErrArg), ("semblance/api.ErrLong", Rows.laid_semblance_api_ErrLong), ("semblance/api.ErrIndex", Rows.laid_semblance_api_ErrIndex), ("semblance/api.ErrEdges", Rows.laid_semblance_api_ErrEdges), ("semblance/api.ErrSystem", Rows.laid_semblance_api_ErrSystem), ("semblance/weak.errGreat", Rows.laid_semblance_weak_errGreat)] W ∧ handlesMet Tryz.prog [("errors.errorType", Rows.laid_errors_errorType)] W from h).2
theorem laidWst_ErrArg {W : World} (h : laidMetH Tryz.prog laidWst W) : ∃ p, GErr 5 p W := gerr_of (n := "semblance/api.ErrArg") (laidMet_subl (.cons _ (.cons_cons _ (List.nil_sublist _))) (laidWst_data h)) (by kernel_rfl) (by kernel_rfl)
theorem laidWst_ErrLong {W : World} (h : laidMetH Tryz.prog laidWst W) : ∃ p, GErr 4 p W := gerr_of (n := "semblance/api.ErrLong") (laidMet_subl (.cons _ (.cons _ (.cons_cons _ (List.nil_sublist _)))) (laidWst_data h)) (by kernel_rfl) (by kernel_rfl)
theorem laidWst_ErrIndex {W : World} (h : laidMetH Tryz.prog laidWst W) : ∃ p, GErr 2 p W := gerr_of (n := "semblance/api.ErrIndex") (laidMet_subl (.cons _ (.cons _ (.cons _ (.cons_cons _ (List.nil_sublist _))))) (laidWst_data h)) (by kernel_rfl) (by kernel_rfl)
theorem laidWst_ErrEdges {W : World} (h : laidMetH Tryz.prog laidWst W) : ∃ p, GErr 0 p W := gerr_of (n := "semblance/api.ErrEdges") (laidMet_subl (.cons _ (.cons _ (.cons _ (.cons _ (.cons_cons _ (List.nil_sublist _)))))) (laidWst_data h)) (by kernel_rfl) (by kernel_rfl)
theorem laidWst_ErrSystem {W : World} (h : laidMetH Tryz.prog laidWst W) : ∃ p, GErr 1 p W := gerr_of (n := "semblance/api.ErrSystem") (laidMet_subl (.cons _ (.cons _ (.cons _ (.cons _ (.cons _ (.cons_cons _ (List.nil_sublist _))))))) (laidWst_data h)) (by kernel_rfl) (by kernel_rfl)
theorem laidWst_errGreat {W : World} (h : laidMetH Tryz.prog laidWst W) : ∃ p, GErr 3 p W := gerr_of (n := "semblance/weak.errGreat") (laidMet_subl (.cons _ (.cons _ (.cons _ (.cons _ (.cons _ (.cons _ (.cons_cons _ (List.nil_sublist _)))))))) (laidWst_data h)) (by kernel_rfl) (by kernel_rfl)
theorem laidWst_tab64 {W : World} (h : laidMetH Tryz.prog laidWst W) : Tab W := by
  have h0 : laidMet Tryz.prog [("math/bits.deBruijn64tab", Rows.laid_math_bits_deBruijn64tab)] W := laidMet_subl (.cons_cons _ (List.nil_sublist _)) (laidWst_data h)
  have h1 : TabIs Tryz.prog W "math/bits.deBruijn64tab" .u8 (Lib.deBruijn64tab.map Int.ofNat) :=
    tabIs_of_head (g := 13) (t := 165) (e := 5) (n := 64) (by kernel_rfl) (by kernel_rfl) Tryz.underlying165 Tryz.underlying5 (by kernel_rfl) (by kernel_rfl) h0
  intro j hj
  have h2 := h1.cell (g := 13) (by kernel_rfl) j (by simpa using hj)
  rw [show (Lib.deBruijn64tab.map Int.ofNat).getD j 0 = ((Lib.deBruijn64tab.getD j 0 : Nat) : Int) by rw [List.getD_eq_getElem?_getD, List.getD_eq_getElem?_getD, List.getElem?_map]; cases Lib.deBruijn64tab[j]? <;> rfl] at h2
  exact h2
theorem laidWst_wk {W : World} (h : laidMetH Tryz.prog laidWst W) : ∃ p, WkErr p W := by
  obtain ⟨p, hG⟩ := laidWst_ErrSystem h
  have hm : laidMet Tryz.prog [("semblance/api.ErrSystem", Rows.laid_semblance_api_ErrSystem), ("semblance/weak.errGreat", Rows.laid_semblance_weak_errGreat)] W := laidMet_subl (.cons _ (.cons _ (.cons _ (.cons _ (.cons _ (.cons_cons _ (.cons_cons _ (List.nil_sublist _)))))))) (laidWst_data h)
  obtain ⟨a0, a1, s0, s1, c0, c1, t0, t1, hv0, hv1, _, _, _, _, _, _, hne, hb0, hb1⟩ := laid_sentinels2 (g0 := 1) (g1 := 3) hm (by kernel_rfl) (by kernel_rfl) (by kernel_rfl) (by kernel_rfl) Tryz.underlying28 row_es Tryz.underlying285 Tryz.underlying303 rfl rfl Tryz.underlying9 (by kernel_rfl) (by kernel_rfl)
  have hcell0 := World.var?_cell (g := 1) (by kernel_rfl) hv0 0
  have hcell0 : W.cell? ⟨1, 0, none⟩ = some (.iface 285 (.pointer (some a0))) := by simpa using hcell0
  have hcell1 := World.var?_cell (g := 3) (by kernel_rfl) hv1 0
  have hcell1 : W.cell? ⟨3, 0, none⟩ = some (.iface 285 (.pointer (some a1))) := by simpa using hcell1
  have hc := hG.cell
  rw [hc] at hcell0
  simp only [Option.some.injEq, Value.iface.injEq, Value.pointer.injEq, true_and] at hcell0
  subst hcell0
  exact ⟨p, ⟨hG, ⟨c0, t0, hb0⟩, ⟨a1, c1, t1, ⟨World.block_lt_of_cell? _ _ hcell1, hcell1⟩, Ne.symm hne, hb1⟩⟩⟩
theorem laidWst_wkq {W : World} (h : laidMetH Tryz.prog laidWst W) : ∃ p, WkErr p W ∧ SentQ 0 p W := by
  obtain ⟨p, hG⟩ := laidWst_wk h
  have hm : laidMet Tryz.prog [("semblance/api.ErrEdges", Rows.laid_semblance_api_ErrEdges), ("semblance/api.ErrSystem", Rows.laid_semblance_api_ErrSystem)] W := laidMet_subl (.cons _ (.cons _ (.cons _ (.cons _ (.cons_cons _ (.cons_cons _ (List.nil_sublist _))))))) (laidWst_data h)
  obtain ⟨a0, a1, s0, s1, c0, c1, t0, t1, hv0, hv1, _, _, _, _, _, _, hne, hb0, hb1⟩ := laid_sentinels2 (g0 := 0) (g1 := 1) hm (by kernel_rfl) (by kernel_rfl) (by kernel_rfl) (by kernel_rfl) Tryz.underlying28 row_es Tryz.underlying285 Tryz.underlying303 rfl rfl Tryz.underlying9 (by kernel_rfl) (by kernel_rfl)
  have hcell0 := World.var?_cell (g := 0) (by kernel_rfl) hv0 0
  have hcell0 : W.cell? ⟨0, 0, none⟩ = some (.iface 285 (.pointer (some a0))) := by simpa using hcell0
  have hcell1 := World.var?_cell (g := 1) (by kernel_rfl) hv1 0
  have hcell1 : W.cell? ⟨1, 0, none⟩ = some (.iface 285 (.pointer (some a1))) := by simpa using hcell1
  have hc := hG.sys.cell
  rw [hc] at hcell1
  simp only [Option.some.injEq, Value.iface.injEq, Value.pointer.injEq, true_and] at hcell1
  subst hcell1
  exact ⟨p, hG, ⟨a0, c0, t0, ⟨World.block_lt_of_cell? _ _ hcell0, hcell0⟩, hne, hb0⟩⟩
end Go.Proofs.YtdhloijdefnkpaaGreatDoor
