/-
  Plain: two strictly sorted lists laid into one, each element once (the reference's way of sorting).
  Plain: the silent steps alone, from a state on.
  The frame of the cards: the world of the witness, the package-level error, how arguments open.
  How an api.System that came in opens: three numbers and a list of edges.
  What a row's list of package-level variables gives: a sentinel, the handle of 'error'.
  errors.Is at an error itself; api.Code and semblancebook.Told.
  What two sentinels of a row's list give: their pointers, which are not one.
-/
import Derived.Test.YtdhloijdefnkpaaGreatDoorGPl2
import Derived.Test.YtdhloijdefnkpaaGreatDoorPl8
import Derived.Test.YtdhloijdefnkpaaGreatDoorCards
import Derived.Test.YtdhloijdefnkpaaGreatDoorTie
import Derived.Test.YtdhloijdefnkpaaGreatDoorGFault
import Derived.ProofKit
import Derived.OpenShut
import Derived.Deep.DeepHandedRow
import Derived.Deep.DeepWitnessRowRef
import Derived.Lib.LaidIn
import Derived.Stop.LaidErr
import Derived.Lib.SmallJoins
import Derived.Test.YtdhloijdefnkpaaGreatDoorAs
import Derived.LaidHandle
import Derived.Test.YtdhloijdefnkpaaGreatDoorGWkL
import Derived.Deep.RegionHeld3
import Derived.Deep.QuietTactic
import Derived.BigQuiet
import Derived.Stop.LaidTwo
namespace Go.Proofs.YtdhloijdefnkpaaGreatDoor
namespace Pl

/-- One element more behind, unless it is the last one already. -/
def pushL (out : List E) (e : E) : List E := if out.getLast? = some e then out else out ++ [e]

structure Mrg (a b out : List E) (i k : Nat) : Prop where
  srt : Srt ltE out
  mem : ∀ x, x ∈ out ↔ x ∈ a.take i ∨ x ∈ b.take k
  la : ∀ o ∈ out, ∀ x ∈ a.drop i, ltE x o = false
  lb : ∀ o ∈ out, ∀ x ∈ b.drop k, ltE x o = false

theorem Mrg.nil (a b : List E) : Mrg a b [] 0 0 := ⟨by simp [Srt], by simp, by simp, by simp⟩

theorem srt_pushL {out : List E} {e : E} (h : Srt ltE out) (he : ∀ o ∈ out, ltE e o = false) : Srt ltE (pushL out e) ∧ ∀ x, x ∈ pushL out e ↔ x ∈ out ∨ x = e := by
  unfold pushL
  by_cases hl : out.getLast? = some e
  · rw [if_pos hl]
    have hm : e ∈ out := List.mem_of_getLast? hl
    exact ⟨h, fun x => ⟨.inl, fun hx => by rcases hx with hx | rfl; exact hx; exact hm⟩⟩
  · rw [if_neg hl]
    refine ⟨?_, fun x => by simp⟩
    unfold Srt at *
    rw [List.pairwise_append]
    refine ⟨h, by simp, fun o ho x hx => ?_⟩
    simp at hx; subst hx
    -- o is the last, or ahead of the last
    obtain ⟨l, z, rfl⟩ : ∃ l z, out = l ++ [z] := by
      rcases List.eq_nil_or_concat out with rfl | ⟨l, z, hz⟩
      · simp at ho
      · exact ⟨l, z, by simpa using hz⟩
    have hz : z ≠ x := by rintro rfl; simp at hl
    have hzx : ltE z x = true := by
      rcases stoE.total z x with h1 | h1 | h1
      · exact h1
      · exact absurd h1 hz
      · rw [he z (by simp)] at h1; cases h1
    rcases List.mem_append.1 ho with h1 | h1
    · have := (List.pairwise_append.1 h).2.2 o h1 z (by simp)
      exact stoE.trans _ _ _ this hzx
    · simp at h1; subst h1; exact hzx

theorem asymE {a b : E} (h : ltE a b = true) : ltE b a = false := by
  rw [Bool.eq_false_iff]; intro h2
  have := stoE.trans _ _ _ h h2
  rw [stoE.irrefl] at this; cases this

/-- What is not above the head of a sorted list is above nothing of it. -/
theorem notBelow {b : List E} {k : Nat} {x e : E} (h : Srt ltE b) (hk : b[k]? = some x) (hx : ltE x e = false) : ∀ y ∈ b.drop k, ltE y e = false := by
  intro y hy
  obtain ⟨j, hj⟩ := List.getElem?_of_mem hy
  rw [List.getElem?_drop] at hj
  by_cases h0 : j = 0
  · subst h0; rw [Nat.add_zero, hk] at hj; cases hj; exact hx
  · obtain ⟨h1, e1⟩ := List.getElem?_eq_some_iff.1 hk
    obtain ⟨h2, e2⟩ := List.getElem?_eq_some_iff.1 hj
    have := List.pairwise_iff_getElem.1 h k (k + j) h1 h2 (by omega)
    rw [e1, e2] at this
    rw [Bool.eq_false_iff]; intro h3
    rw [stoE.trans _ _ _ this h3] at hx; cases hx

theorem Mrg.pushA {a b out : List E} {i k : Nat} {e : E} (h : Mrg a b out i k) (ha : Srt ltE a) (hi : a[i]? = some e) (hb : ∀ y ∈ b.drop k, ltE y e = false) : Mrg a b (pushL out e) (i + 1) k := by
  obtain ⟨hil, hie⟩ := List.getElem?_eq_some_iff.1 hi
  have hd : a.drop i = e :: a.drop (i + 1) := by rw [List.drop_eq_getElem_cons hil, hie]
  have hlo : ∀ o ∈ out, ltE e o = false := fun o ho => h.la o ho e (by rw [hd]; simp)
  obtain ⟨h1, h2⟩ := srt_pushL h.srt hlo
  refine ⟨h1, fun x => ?_, fun o ho x hx => ?_, fun o ho x hx => ?_⟩
  · rw [h2, h.mem, List.take_succ_eq_append_getElem hil, hie, List.mem_append, List.mem_singleton]
    constructor
    · rintro ((h | h) | h)
      · exact .inl (.inl h)
      · exact .inr h
      · exact .inl (.inr h)
    · rintro ((h | h) | h)
      · exact .inl (.inl h)
      · exact .inr h
      · exact .inl (.inr h)
  · rcases (h2 o).1 ho with h3 | rfl
    · exact h.la o h3 x (by rw [hd]; simp [hx])
    · have hs : Srt ltE (a.drop i) := List.Pairwise.drop ha
      rw [hd] at hs
      exact asymE ((List.pairwise_cons.1 hs).1 x hx)
  · rcases (h2 o).1 ho with h3 | rfl
    · exact h.lb o h3 x hx
    · exact hb x hx

theorem Mrg.swap {a b out : List E} {i k : Nat} (h : Mrg a b out i k) : Mrg b a out k i := ⟨h.srt, fun x => by rw [h.mem]; exact Or.comm, h.lb, h.la⟩
theorem Mrg.pushB {a b out : List E} {i k : Nat} {e : E} (h : Mrg a b out i k) (hb : Srt ltE b) (hi : b[k]? = some e) (ha : ∀ y ∈ a.drop i, ltE y e = false) : Mrg a b (pushL out e) i (k + 1) :=
  (h.swap.pushA hb hi ha).swap

theorem Mrg.done {a b out l : List E} (h : Mrg a b out a.length b.length) (hm : ∀ x, x ∈ l ↔ x ∈ a ∨ x ∈ b) : out = nf ltE l :=
  eq_nf stoE h.srt (fun x => by rw [h.mem, List.take_length, List.take_length, hm])

theorem Mrg.len {a b out : List E} {i k : Nat} {e : E} : (pushL out e).length ≤ out.length + 1 := by
  unfold pushL; split <;> simp

theorem half_mem (l : List E) (m : Nat) (x : E) : x ∈ l ↔ x ∈ nf ltE (l.take m) ∨ x ∈ nf ltE (l.drop m) := by
  rw [mem_nf stoE, mem_nf stoE, ← List.mem_append, List.take_append_drop]

theorem nf_short {l : List E} (h : l.length < 2) : nf ltE l = l := by
  match l, h with
  | [], _ => rfl
  | [x], _ => rfl
  | _ :: _ :: _, h => simp at h; omega

end Pl
end Go.Proofs.YtdhloijdefnkpaaGreatDoor

namespace Go.Proofs.YtdhloijdefnkpaaGreatDoor
namespace Pl

/-- The silent steps of s, from q on. -/
def tauOf (s : Lts) (q : Int) : Lts := ⟨s.st, s.lb, q, s.es.filter (fun x => x.2.1 == 0)⟩
theorem tauOf_right {s : Lts} (h : s.Right) {q : Int} (h0 : 0 ≤ q) (h1 : q < s.st) : (tauOf s q).Right := by
  have hr := h.st0
  refine ⟨?_, fun x hx => h.edges x (List.mem_filter.1 hx).1⟩
  unfold HeadBad tauOf
  have := List.length_filter_le (fun x : E => x.2.1 == 0) s.es
  simp only
  omega
theorem mem_tauOf {s : Lts} {q x : Int} {y : S} : y ∈ (tauOf s q).outs x ↔ y ∈ s.outs x ∧ y.1 = 0 := by
  rw [mem_outs, mem_outs]
  unfold tauOf
  simp
end Pl
end Go.Proofs.YtdhloijdefnkpaaGreatDoor

namespace Go.Proofs.YtdhloijdefnkpaaGreatDoor
open Go.ChangeShapes Go.WideShapes Go.ChangeAt Go.RowKit Go.Lib

theorem ownKnob_none : ownKnob Tryz.prog.godebug = none := by kernel_rfl
theorem prog_laidOut : laidOutB Tryz.prog = true := by kernel_rfl

def sysText : List UInt8 := [97, 32, 115, 121, 115, 116, 101, 109, 32, 116, 104, 97, 116, 32, 105, 115, 32, 110, 111, 110, 101]

/-- A WORLD FOR THE WITNESS: the settled one, one block more: the error's struct; the variable holding its pointer. -/
noncomputable def laidWorld (os : Os) : World :=
  let N := (World.settled Tryz.prog os).heap.size
  let w0 := World.holding Tryz.prog os ⟨#[.cells #[.string ⟨sysText.toArray⟩] 303], #[], []⟩
  { w0 with heap := w0.heap.modify 1 fun
      | .cells _ t frozen => .cells #[.iface 285 (.pointer (some ⟨N, 0, none⟩))] t frozen
      | o => o }
noncomputable abbrev nBlock : Nat := (World.settled Tryz.prog default).heap.size
theorem laidIn_sys (os : Os) (args : Array Value) : LaidIn Tryz.prog ((laidWorld os).forCall (fun _ _ => 0) ⟨#[], args, []⟩).memory [("semblance/api.ErrSystem", Rows.laid_semblance_api_ErrSystem)] [1, nBlock] :=
  LaidIn.of_run [1, nBlock] 8 (by kernel_rfl) (by kernel_rfl) (by kernel_rfl) (by kernel_rfl)
theorem laid_met (os : Os) (args : Array Value) : laidMet Tryz.prog [("semblance/api.ErrSystem", Rows.laid_semblance_api_ErrSystem)] ((laidWorld os).forCall (fun _ _ => 0) ⟨#[], args, []⟩).memory :=
  (laidIn_sys os args).met

theorem star_es : "*" ++ "errors.errorString" = "*errors.errorString" := by decide
theorem row_es (u : TypeId) (h : Tryz.prog.typeName? 3 u = some "*errors.errorString") : u = 285 :=
  typeName_ptr_named (nm := "errors.errorString") (by rw [star_es]; kernel_rfl) (by kernel_rfl) (by decide) u (by rw [star_es]; exact h)

/-- WHAT THE ROW's LIST GIVES: the variable holds a pointer. -/
theorem gerr_sys {r : List (String × DataW Unit)} {W : World} (h : laidMet Tryz.prog (("semblance/api.ErrSystem", Rows.laid_semblance_api_ErrSystem) :: r) W) : ∃ p, GErr 1 p W := by
  obtain ⟨a, s, hv, hc, _, _⟩ := laid_sentinel (g := 1) h (by kernel_rfl) (by kernel_rfl) Tryz.underlying28 row_es Tryz.underlying285 Tryz.underlying303 rfl rfl Tryz.underlying9 (by kernel_rfl) (by kernel_rfl)
  have hcell := World.var?_cell (g := 1) (by kernel_rfl) hv 0
  have hcell : W.cell? ⟨1, 0, none⟩ = some (.iface 285 (.pointer (some a))) := by simpa using hcell
  exact ⟨a, World.block_lt_of_cell? _ _ hcell, hcell⟩

/-- A list of numbers that came in. -/
theorem open_intList {H : Type} {enc : TypeId × Value → H} {W : World} {fuel : Nat} {a : Option Addr} {n c : Nat} {x : DataW H × List MemPlace}
    (h : DataW.trod enc Tryz.prog W 0 (fun _ => true) true fuel 33 [.slice a n c] = some x) :
    ∃ (b off : Nat) (xs : List Int), n = xs.length ∧ xs.length ≤ maxLen ∧ SlAt encI 1 W a b off xs ∧ ∀ y ∈ xs, (Lit.int .i64 y).wf = true := by
  rcases open_ints Tryz.underlying33 Tryz.underlying3 (by kernel_rfl) h with ⟨hcs, _⟩ | ⟨ad, len, cap, zs, hcs, _, hl, hm, hz, _, hcell, hw⟩
  · simp at hcs
    obtain ⟨rfl, rfl, rfl⟩ := hcs
    exact ⟨0, 0, [], rfl, by simp, slAt_nil _ _ _ _, by simp⟩
  · simp at hcs
    obtain ⟨rfl, rfl, rfl⟩ := hcs
    simp only [if_true] at hz
    obtain ⟨b, off, spot⟩ := ad
    refine ⟨b, off, zs.take n, by simp; omega, by simp; omega, ?_, fun y hy => hw y (List.mem_of_mem_take hy)⟩
    have hcl : 0 < n → spot = none ∧ b < W.heap.size := by
      intro h0
      have hc0 := hcell 0 (by omega)
      have hspot : spot = none := by simpa [Addr.add] using World.cell?_spot hc0
      subst hspot
      exact ⟨rfl, World.block_lt_of_cell? _ _ hc0⟩
    refine ⟨fun hp => ?_, fun hp => (hcl (by simp at hp; omega)).2, fun i y hy j u hu => ?_⟩
    · obtain ⟨rfl, _⟩ := hcl (by simp at hp; omega)
      rfl
    · have hi : i < n := by have := (List.getElem?_eq_some_iff.1 hy).1; simp at this; omega
      obtain ⟨rfl, _⟩ := hcl (by omega)
      match j, hu with
      | 0, hu =>
        simp [encI] at hu; subst hu
        rw [List.getElem?_take_of_lt hi] at hy
        have := hcell i (by omega)
        rw [List.getD_eq_getElem?_getD, hy, Go.WideShapes.add_plain] at this
        simpa using this
end Go.Proofs.YtdhloijdefnkpaaGreatDoor

namespace Go.Proofs.YtdhloijdefnkpaaGreatDoor
open Go.ChangeShapes Go.WideShapes Go.ChangeAt Go.RowKit Go.Lib Go.Deep Pl

theorem cellsInt : Tryz.prog.cellsOf 3 = 1 := by kernel_rfl
theorem cellsEdge : Tryz.prog.cellsOf 35 = 3 := by kernel_rfl

def wfE (x : E) : Prop := (Lit.int .i64 x.1).wf = true ∧ (Lit.int .i64 x.2.1).wf = true ∧ (Lit.int .i64 x.2.2).wf = true

set_option maxRecDepth 100000 in
theorem open_edge {H : Type} {enc : TypeId × Value → H} {W : World} {fuel : Nat} {cs : List Value} {x : DataW H × List MemPlace}
    (h : DataW.trod enc Tryz.prog W 0 (fun _ => true) true fuel 35 cs = some x) : ∃ e : E, cs = encE e ∧ wfE e := by
  obtain ⟨y0, y1, y2, n, _, hl, h0, h1, h2⟩ := trod_struct3 Tryz.underlying35 h
  rw [cellsEdge] at hl
  match cs, hl with
  | [c0, c1, c2], _ =>
    simp only [cellsInt] at h0 h1 h2
    obtain ⟨a0, e0, _, w0⟩ := DataW.trod_int Tryz.underlying3 h0
    obtain ⟨a1, e1, _, w1⟩ := DataW.trod_int Tryz.underlying3 h1
    obtain ⟨a2, e2, _, w2⟩ := DataW.trod_int Tryz.underlying3 h2
    simp at e0 e1 e2
    subst e0 e1 e2
    exact ⟨(a0, a1, a2), rfl, w0, w1, w2⟩

set_option maxRecDepth 100000 in
/-- A list of edges that came in. -/
theorem open_edges {H : Type} {enc : TypeId × Value → H} {W : World} {fuel : Nat} {v : Value} {x : DataW H × List MemPlace}
    (h : DataW.trod enc Tryz.prog W 0 (fun _ => true) true fuel 22 [v] = some x) :
    ∃ (a : Option Addr) (c b off : Nat) (es : List E), v = .slice a es.length c ∧ es.length ≤ maxLen ∧ SlAt encE 3 W a b off es ∧ (∀ y ∈ es, wfE y) ∧ es.length ≤ c ∧ c ≤ maxLen := by
  rcases open_slice Tryz.underlying22 h with ⟨hcs, _⟩ | ⟨ad, len, cap, m, n, D, Pls, hcs, _, hl, hm, hmm, _, hi⟩
  · simp at hcs
    subst hcs
    exact ⟨none, 0, 0, 0, [], rfl, by simp, slAt_nil _ _ _ _, by simp, by simp, by simp⟩
  · simp at hcs
    subst hcs
    simp only [if_true] at hmm
    rw [cellsEdge] at hi
    have hex : ∀ i : Nat, ∃ e : E, i < m → wfE e ∧ ∀ j u, (encE e)[j]? = some u → W.cell? (ad.add (i * 3 + j)) = some u := by
      intro i
      by_cases him : i < m
      · obtain ⟨cs', hc, ht⟩ := hi i him
        obtain ⟨e, rfl, hw⟩ := open_edge ht
        obtain ⟨_, hcl, hat⟩ := World.cells?_some hc
        refine ⟨e, fun _ => ⟨hw, fun j u hu => ?_⟩⟩
        have hj : j < 3 := by have := (List.getElem?_eq_some_iff.1 hu).1; simpa [encE] using this
        rw [← Go.Deep.add_add, hat j hj, hu]
      · exact ⟨(0, 0, 0), fun h => absurd h him⟩
    obtain ⟨f, hf⟩ := Classical.axiomOfChoice hex
    obtain ⟨b, off, spot⟩ := ad
    have hcl : 0 < len → spot = none ∧ b < W.heap.size := by
      intro h0
      have hc0 := (hf 0 (by omega)).2 0 _ rfl
      have hspot : spot = none := by simpa [Addr.add] using World.cell?_spot hc0
      subst hspot
      exact ⟨rfl, World.block_lt_of_cell? _ _ hc0⟩
    refine ⟨some ⟨b, off, spot⟩, cap, b, off, (List.range len).map f, by simp, by simp; omega, ⟨fun hp => ?_, fun hp => (hcl (by simpa using hp)).2, fun i y hy j u hu => ?_⟩, ?_, by simp; omega, by omega⟩
    · obtain ⟨rfl, _⟩ := hcl (by simpa using hp); rfl
    · have hil : i < len := by have := (List.getElem?_eq_some_iff.1 hy).1; simpa using this
      obtain ⟨rfl, _⟩ := hcl (by omega)
      have hy' : y = f i := by simp [hil] at hy; exact hy.symm
      subst hy'
      have := (hf i (by omega)).2 j u hu
      rw [Go.WideShapes.add_plain, ← Nat.add_assoc] at this
      exact this
    · intro y hy
      obtain ⟨i, hi', rfl⟩ := List.mem_map.1 hy
      rw [List.mem_range] at hi'
      exact (hf i (by omega)).1

set_option maxRecDepth 100000 in
/-- A system that came in. -/
theorem open_sys {H : Type} {enc : TypeId × Value → H} {W : World} {r : Reach} {b0 : Nat} {v : Value} {d : DataW H} {p : List MemPlace}
    (hv : Value.okWide Tryz.prog W r b0 24 v) (h : DataW.Trod enc Tryz.prog W 0 (fun _ => true) true 24 v d p) :
    ∃ (s : Lts) (a : Option Addr) (c b off : Nat), v = .agg #[.int .i64 s.st, .int .i64 s.lb, .int .i64 s.s0, .slice a s.es.length c] ∧ s.es.length ≤ maxLen ∧ SlAt encE 3 W a b off s.es ∧
      (∀ y ∈ s.es, wfE y) ∧ (Lit.int .i64 s.st).wf = true ∧ (Lit.int .i64 s.lb).wf = true ∧ (Lit.int .i64 s.s0).wf = true ∧ s.es.length ≤ c ∧ c ≤ maxLen := by
  obtain ⟨v0, v1, v2, v3, y0, y1, y2, y3, n, rfl, _, _, h0, h1, h2, h3⟩ := Go.Joins.open_agg4 Tryz.underlying24 (by kernel_rfl) (by kernel_rfl) hv h
  obtain ⟨a0, e0, _, w0⟩ := DataW.trod_int Tryz.underlying3 h0
  obtain ⟨a1, e1, _, w1⟩ := DataW.trod_int Tryz.underlying3 h1
  obtain ⟨a2, e2, _, w2⟩ := DataW.trod_int Tryz.underlying3 h2
  obtain ⟨a, c, b, off, es, rfl, hl, hS, hw, hc1, hc2⟩ := open_edges h3
  simp at e0 e1 e2
  subst e0 e1 e2
  exact ⟨⟨a0, a1, a2, es⟩, a, c, b, off, rfl, hl, hS, hw, w0, w1, w2, hc1, hc2⟩

end Go.Proofs.YtdhloijdefnkpaaGreatDoor

namespace Go.Proofs.YtdhloijdefnkpaaGreatDoor
open Go.ChangeShapes Go.WideShapes Go.ChangeAt Go.RowKit Go.Lib

theorem laidVars_subl {P : Program} {w : World} {l' l : List (String × DataW Unit)} (h : l'.Sublist l) : ∀ {ps : List MemPlace}, DataW.LaidVars P w l ps → ∃ ps', DataW.LaidVars P w l' ps' ∧ ps'.Sublist ps := by
  induction h with
  | slnil => intro ps hv; exact ⟨ps, hv, List.Sublist.refl _⟩
  | cons a _ ih =>
    intro ps hv
    obtain ⟨n, d⟩ := a
    obtain ⟨g, t, cs, fuel, p, q, _, _, _, _, hq, rfl⟩ := hv
    obtain ⟨ps', h1, h2⟩ := ih hq
    exact ⟨ps', h1, h2.trans (List.sublist_append_right _ _)⟩
  | cons_cons a _ ih =>
    intro ps hv
    obtain ⟨n, d⟩ := a
    obtain ⟨g, t, cs, fuel, p, q, h1, h2, h3, h4, hq, rfl⟩ := hv
    obtain ⟨ps', h5, h6⟩ := ih hq
    exact ⟨_, ⟨g, t, cs, fuel, p, ps', h1, h2, h3, h4, h5, rfl⟩, List.Sublist.append (List.Sublist.refl _) h6⟩
theorem laidMet_subl {P : Program} {w : World} {l' l : List (String × DataW Unit)} (hs : l'.Sublist l) (h : laidMet P l w) : laidMet P l' w := by
  obtain ⟨ps, hv, hnd, hrows⟩ := h
  obtain ⟨ps', h1, h2⟩ := laidVars_subl hs hv
  exact ⟨ps', h1, hnd.sublist h2, fun b off hm => hrows b off (h2.subset hm)⟩

/-- A sentinel: its variable holds a pointer. -/
theorem gerr_of {n : String} {g : Nat} {text : List UInt8} {W : World} (h : laidMet Tryz.prog [(n, .iface "*errors.errorString" (.ptr (.agg [.lit (.string text)])))] W)
    (hg : Tryz.prog.globalNamed n = some g) (ht : (Tryz.prog.globals[g]?).map (·.type) = some 28) : ∃ p, GErr g p W := by
  obtain ⟨a, s, hv, hc, _, _⟩ := laid_sentinel (g := g) h hg ht Tryz.underlying28 row_es Tryz.underlying285 Tryz.underlying303 rfl rfl Tryz.underlying9 (by kernel_rfl) (by kernel_rfl)
  have hcell := World.var?_cell (g := g) hg hv 0
  have hcell : W.cell? ⟨g, 0, none⟩ = some (.iface 285 (.pointer (some a))) := by simpa using hcell
  exact ⟨a, World.block_lt_of_cell? _ _ hcell, hcell⟩

theorem et_named : Tryz.prog.globalNamed "errors.errorType" = some 21 := by kernel_rfl
theorem et_rt : (Tryz.prog.cutTypes.find? (·.1 == "internal/reflectlite.rtype")).map (·.2) = some 144 := by kernel_rfl
theorem et_rows : ((List.range 315).filter fun t => Tryz.prog.rowNamed t [101, 114, 114, 111, 114]) = [28] := by kernel_rfl
theorem et_size : Tryz.prog.types.size = 315 := by kernel_rfl

/-- The handle of 'error'. -/
theorem errType_of {W : World} (h : handlesMet Tryz.prog [("errors.errorType", Rows.laid_errors_errorType)] W) : ErrType W := by
  obtain ⟨name, u, ty, e1, e2, e3, e4, e5⟩ := h _ (List.mem_singleton.2 rfl)
  have en : name = [101, 114, 114, 111, 114] := (Option.some.inj e1).symm
  subst en
  obtain rfl := Option.some.inj (et_rt.symm.trans e2)
  have hm : ty ∈ (List.range 315).filter fun t => Tryz.prog.rowNamed t [101, 114, 114, 111, 114] := List.mem_filter.2 ⟨List.mem_range.2 (by rw [← et_size]; exact e3), e4⟩
  rw [et_rows] at hm
  obtain rfl := List.mem_singleton.1 hm
  have hh : typeHandle Tryz.prog 28 = .pointer (some ⟨24, 28, none⟩) := by kernel_rfl
  rw [hh] at e5
  exact ⟨by simpa using World.var?_cell et_named e5 0⟩
end Go.Proofs.YtdhloijdefnkpaaGreatDoor

namespace Go.Proofs.YtdhloijdefnkpaaGreatDoor
open Go.RowKit Go.Extern.Stop Go.Stop Go.Extern Pl

set_option maxRecDepth 100000 in
/-- errors.Is(x, x). -/
theorem is_raw_same (b : Addr) (w : World) :
    Calls Tryz.prog 22 #[.iface 285 (.pointer (some b)), .iface 285 (.pointer (some b))] w fun e w' => e = .returned (.bool true) ∧ w = w' := by
  obtain ⟨i, hi, hcmp⟩ := Option.map_eq_some_iff.1 isComp
  obtain ⟨j, hj, hjs⟩ := Option.map_eq_some_iff.1 isSize
  have tT := isTypeOf
  have cT := isComparable
  have mR := isMethodComparable
  have nE := noIsE
  have uE := noUnwrapE
  have vE := noUnwrapsE
  have heq := run_eql_iface_ptr_same (P := Tryz.prog) w b Tryz.underlying28 Tryz.underlying285 hi hcmp hj
  go_enter Tryz.func22, Tryz.ntmps22
  go_wp2
  refine wp_loop_rounds 1 ?_
  rw [rounds_succ]
  go_wp2
  go_ret
  exact ⟨rfl, rfl⟩

set_option maxRecDepth 100000 in
/-- errors.Is(another error, x). -/
theorem is_raw_other (b a : Addr) (ca cb : Array Value) (ta tb : TypeId) (w : World) (hne : a ≠ b) (ha : w.heap[a.block]? = some (.cells ca ta (0, 0))) (hb : w.heap[b.block]? = some (.cells cb tb (0, 0))) :
    Calls Tryz.prog 22 #[.iface 285 (.pointer (some a)), .iface 285 (.pointer (some b))] w fun e w' => e = .returned (.bool false) ∧ w = w' := by
  obtain ⟨i, hi, hcmp⟩ := Option.map_eq_some_iff.1 isComp
  obtain ⟨j, hj, hjs⟩ := Option.map_eq_some_iff.1 isSize
  have tT := isTypeOf
  have cT := isComparable
  have mR := isMethodComparable
  have nE := noIsE
  have uE := noUnwrapE
  have vE := noUnwrapsE
  have heq := run_eql_iface_ptr_other (P := Tryz.prog) w Tryz.underlying28 Tryz.underlying285 hi hcmp hj (by rw [hjs]; decide) hne ha hb
  go_enter Tryz.func22, Tryz.ntmps22
  go_wp2
  refine wp_loop_rounds 1 ?_
  rw [rounds_succ]
  go_wp2
  go_ret
  exact ⟨rfl, rfl⟩

/-- The package-level errors, by their codes. -/
def gE : Nat → Nat
  | 1 => 5
  | 2 => 4
  | 3 => 2
  | 4 => 6
  | 5 => 7
  | 6 => 8
  | 7 => 9
  | 8 => 10
  | 9 => 11
  | 10 => 12
  | 11 => 14
  | 12 => 15
  | 13 => 0
  | 14 => 1
  | 15 => 16
  | 16 => 17
  | 17 => 18
  | 18 => 19
  | 19 => 20
  | _ => 0

/-- The error of code k, and that those ahead of it are others. -/
structure ErrsK (k : Nat) (p : Addr) (w : World) : Prop where
  sys : GErr (gE k) p w
  blk : ∃ c t, w.heap[p.block]? = some (.cells c t (0, 0))
  oth : ∀ j, 1 ≤ j → j < k → SentQ (gE j) p w
theorem ErrsK.below {k : Nat} {p : Addr} {w w' : World} (h : ErrsK k p w) (hB : Below w.heap.size w w') : ErrsK k p w' :=
  ⟨h.sys.below hB, by obtain ⟨c, t, h1⟩ := h.blk; exact ⟨c, t, by rw [hB.block _ (Array.getElem?_eq_some_iff.1 h1).1]; exact h1⟩, fun j h1 h2 => (h.oth j h1 h2).below hB⟩
/-- What errors.Is tells of an error of code k. -/
structure CodeW (w : World) (v : Value) (k : Nat) : Prop where
  same : ∃ q, w.cell? ⟨gE k, 0, none⟩ = some (.iface 285 (.pointer (some q))) ∧ Calls Tryz.prog 22 #[v, .iface 285 (.pointer (some q))] w fun e w' => e = .returned (.bool true) ∧ w = w'
  oth : ∀ j, 1 ≤ j → j < k → ∃ q, w.cell? ⟨gE j, 0, none⟩ = some (.iface 285 (.pointer (some q))) ∧ Calls Tryz.prog 22 #[v, .iface 285 (.pointer (some q))] w fun e w' => e = .returned (.bool false) ∧ w = w'
theorem codeW0 {k : Nat} {p : Addr} {w : World} (h : ErrsK k p w) : CodeW w (.iface 285 (.pointer (some p))) k :=
  ⟨⟨p, h.sys.cell, is_raw_same p w⟩, fun j h1 h2 => by
    obtain ⟨q, c, t, h3, h4, h5⟩ := h.oth j h1 h2
    obtain ⟨c2, t2, h6⟩ := h.blk
    exact ⟨q, h3.cell, is_raw_other q p c2 c t2 t w (Ne.symm h4) h6 h5⟩⟩
theorem codeW1 {k : Nat} {p : Addr} {w : World} {fb : Nat} (h : ErrsK k p w) (hc : w.cell? ⟨fb, 3, none⟩ = some (.iface 285 (.pointer (some p)))) : CodeW w (.iface 73 (.pointer (some ⟨fb, 0, none⟩))) k :=
  ⟨⟨p, h.sys.cell, is_fault_same fb p w hc⟩, fun j h1 h2 => by
    obtain ⟨q, c, t, h3, h4, h5⟩ := h.oth j h1 h2
    obtain ⟨c2, t2, h6⟩ := h.blk
    exact ⟨q, h3.cell, is_fault_other fb q p c2 c t2 t w hc (Ne.symm h4) h6 h5⟩⟩
theorem codeW2 {k : Nat} {p : Addr} {w : World} {fb fc : Nat} (h : ErrsK k p w) (h0 : w.cell? ⟨fb, 3, none⟩ = some (.iface 73 (.pointer (some ⟨fc, 0, none⟩)))) (hc : w.cell? ⟨fc, 3, none⟩ = some (.iface 285 (.pointer (some p)))) : CodeW w (.iface 73 (.pointer (some ⟨fb, 0, none⟩))) k :=
  ⟨⟨p, h.sys.cell, is_faultQ_same fb fc p w h0 hc⟩, fun j h1 h2 => by
    obtain ⟨q, c, t, h3, h4, h5⟩ := h.oth j h1 h2
    obtain ⟨c2, t2, h6⟩ := h.blk
    exact ⟨q, h3.cell, is_faultQ_other fb fc q p c2 c t2 t w h0 hc (Ne.symm h4) h6 h5⟩⟩

set_option maxRecDepth 100000 in
set_option maxHeartbeats 2000000 in
theorem code2_any {w : World} {T : TypeId} {x : Value} (h : CodeW w (.iface T x) 2) :
    Calls Tryz.prog 36 #[.iface T x] w fun e w' => e = .returned (.int .i64 2) ∧ w = w' := by
  obtain ⟨q1, c1, i1⟩ := h.oth 1 (by decide) (by decide)
  have I1 := Lib.hid i1; clear i1
  simp only [gE] at c1
  obtain ⟨q2, c2, i2⟩ := h.same
  have I2 := Lib.hid i2; clear i2
  simp only [gE] at c2
  clear h
  go_enter Tryz.func36, Tryz.ntmps36
  go_wp2_with fail
  refine I1.out.mono ?_
  rintro e w' ⟨rfl, rfl⟩
  go_wp2_with fail
  refine I2.out.mono ?_
  rintro e w' ⟨rfl, rfl⟩
  go_wp2
  go_ret
  exact ⟨rfl, rfl⟩

set_option maxRecDepth 100000 in
set_option maxHeartbeats 2000000 in
theorem code3_any {w : World} {T : TypeId} {x : Value} (h : CodeW w (.iface T x) 3) :
    Calls Tryz.prog 36 #[.iface T x] w fun e w' => e = .returned (.int .i64 3) ∧ w = w' := by
  obtain ⟨q1, c1, i1⟩ := h.oth 1 (by decide) (by decide)
  have I1 := Lib.hid i1; clear i1
  simp only [gE] at c1
  obtain ⟨q2, c2, i2⟩ := h.oth 2 (by decide) (by decide)
  have I2 := Lib.hid i2; clear i2
  simp only [gE] at c2
  obtain ⟨q3, c3, i3⟩ := h.same
  have I3 := Lib.hid i3; clear i3
  simp only [gE] at c3
  clear h
  go_enter Tryz.func36, Tryz.ntmps36
  go_wp2_with fail
  refine I1.out.mono ?_
  rintro e w' ⟨rfl, rfl⟩
  go_wp2_with fail
  refine I2.out.mono ?_
  rintro e w' ⟨rfl, rfl⟩
  go_wp2_with fail
  refine I3.out.mono ?_
  rintro e w' ⟨rfl, rfl⟩
  go_wp2
  go_ret
  exact ⟨rfl, rfl⟩

set_option maxRecDepth 100000 in
set_option maxHeartbeats 2000000 in
theorem rest13_any {w : World} {T : TypeId} {x : Value} (h : CodeW w (.iface T x) 13) :
    Calls Tryz.prog 70 #[.iface T x] w fun e w' => e = .returned (.int .i64 13) ∧ w = w' := by
  obtain ⟨q11, c11, i11⟩ := h.oth 11 (by decide) (by decide)
  have I11 := Lib.hid i11; clear i11
  simp only [gE] at c11
  obtain ⟨q12, c12, i12⟩ := h.oth 12 (by decide) (by decide)
  have I12 := Lib.hid i12; clear i12
  simp only [gE] at c12
  obtain ⟨q13, c13, i13⟩ := h.same
  have I13 := Lib.hid i13; clear i13
  simp only [gE] at c13
  clear h
  go_enter Tryz.func70, Tryz.ntmps70
  go_wp2_with fail
  refine I11.out.mono ?_
  rintro e w' ⟨rfl, rfl⟩
  go_wp2_with fail
  refine I12.out.mono ?_
  rintro e w' ⟨rfl, rfl⟩
  go_wp2_with fail
  refine I13.out.mono ?_
  rintro e w' ⟨rfl, rfl⟩
  go_wp2
  go_ret
  exact ⟨rfl, rfl⟩

set_option maxRecDepth 100000 in
set_option maxHeartbeats 2000000 in
theorem code13_any {w : World} {T : TypeId} {x : Value} (h : CodeW w (.iface T x) 13) :
    Calls Tryz.prog 36 #[.iface T x] w fun e w' => e = .returned (.int .i64 13) ∧ w = w' := by
  obtain ⟨q1, c1, i1⟩ := h.oth 1 (by decide) (by decide)
  have I1 := Lib.hid i1; clear i1
  simp only [gE] at c1
  obtain ⟨q2, c2, i2⟩ := h.oth 2 (by decide) (by decide)
  have I2 := Lib.hid i2; clear i2
  simp only [gE] at c2
  obtain ⟨q3, c3, i3⟩ := h.oth 3 (by decide) (by decide)
  have I3 := Lib.hid i3; clear i3
  simp only [gE] at c3
  obtain ⟨q4, c4, i4⟩ := h.oth 4 (by decide) (by decide)
  have I4 := Lib.hid i4; clear i4
  simp only [gE] at c4
  obtain ⟨q5, c5, i5⟩ := h.oth 5 (by decide) (by decide)
  have I5 := Lib.hid i5; clear i5
  simp only [gE] at c5
  obtain ⟨q6, c6, i6⟩ := h.oth 6 (by decide) (by decide)
  have I6 := Lib.hid i6; clear i6
  simp only [gE] at c6
  obtain ⟨q7, c7, i7⟩ := h.oth 7 (by decide) (by decide)
  have I7 := Lib.hid i7; clear i7
  simp only [gE] at c7
  obtain ⟨q8, c8, i8⟩ := h.oth 8 (by decide) (by decide)
  have I8 := Lib.hid i8; clear i8
  simp only [gE] at c8
  obtain ⟨q9, c9, i9⟩ := h.oth 9 (by decide) (by decide)
  have I9 := Lib.hid i9; clear i9
  simp only [gE] at c9
  obtain ⟨q10, c10, i10⟩ := h.oth 10 (by decide) (by decide)
  have I10 := Lib.hid i10; clear i10
  simp only [gE] at c10
  have HR := Lib.hid (rest13_any h)
  clear h
  go_enter Tryz.func36, Tryz.ntmps36
  go_wp2_with fail
  refine I1.out.mono ?_
  rintro e w' ⟨rfl, rfl⟩
  go_wp2_with fail
  refine I2.out.mono ?_
  rintro e w' ⟨rfl, rfl⟩
  go_wp2_with fail
  refine I3.out.mono ?_
  rintro e w' ⟨rfl, rfl⟩
  go_wp2_with fail
  refine I4.out.mono ?_
  rintro e w' ⟨rfl, rfl⟩
  go_wp2_with fail
  refine I5.out.mono ?_
  rintro e w' ⟨rfl, rfl⟩
  go_wp2_with fail
  refine I6.out.mono ?_
  rintro e w' ⟨rfl, rfl⟩
  go_wp2_with fail
  refine I7.out.mono ?_
  rintro e w' ⟨rfl, rfl⟩
  go_wp2_with fail
  refine I8.out.mono ?_
  rintro e w' ⟨rfl, rfl⟩
  go_wp2_with fail
  refine I9.out.mono ?_
  rintro e w' ⟨rfl, rfl⟩
  go_wp2_with fail
  refine I10.out.mono ?_
  rintro e w' ⟨rfl, rfl⟩
  go_wp2_with fail
  refine HR.out.mono ?_
  rintro e w' ⟨rfl, rfl⟩
  go_wp2
  go_ret
  exact ⟨rfl, rfl⟩

set_option maxRecDepth 100000 in
set_option maxHeartbeats 2000000 in
theorem rest14_any {w : World} {T : TypeId} {x : Value} (h : CodeW w (.iface T x) 14) :
    Calls Tryz.prog 70 #[.iface T x] w fun e w' => e = .returned (.int .i64 14) ∧ w = w' := by
  obtain ⟨q11, c11, i11⟩ := h.oth 11 (by decide) (by decide)
  have I11 := Lib.hid i11; clear i11
  simp only [gE] at c11
  obtain ⟨q12, c12, i12⟩ := h.oth 12 (by decide) (by decide)
  have I12 := Lib.hid i12; clear i12
  simp only [gE] at c12
  obtain ⟨q13, c13, i13⟩ := h.oth 13 (by decide) (by decide)
  have I13 := Lib.hid i13; clear i13
  simp only [gE] at c13
  obtain ⟨q14, c14, i14⟩ := h.same
  have I14 := Lib.hid i14; clear i14
  simp only [gE] at c14
  clear h
  go_enter Tryz.func70, Tryz.ntmps70
  go_wp2_with fail
  refine I11.out.mono ?_
  rintro e w' ⟨rfl, rfl⟩
  go_wp2_with fail
  refine I12.out.mono ?_
  rintro e w' ⟨rfl, rfl⟩
  go_wp2_with fail
  refine I13.out.mono ?_
  rintro e w' ⟨rfl, rfl⟩
  go_wp2_with fail
  refine I14.out.mono ?_
  rintro e w' ⟨rfl, rfl⟩
  go_wp2
  go_ret
  exact ⟨rfl, rfl⟩

set_option maxRecDepth 100000 in
set_option maxHeartbeats 2000000 in
theorem code14_any {w : World} {T : TypeId} {x : Value} (h : CodeW w (.iface T x) 14) :
    Calls Tryz.prog 36 #[.iface T x] w fun e w' => e = .returned (.int .i64 14) ∧ w = w' := by
  obtain ⟨q1, c1, i1⟩ := h.oth 1 (by decide) (by decide)
  have I1 := Lib.hid i1; clear i1
  simp only [gE] at c1
  obtain ⟨q2, c2, i2⟩ := h.oth 2 (by decide) (by decide)
  have I2 := Lib.hid i2; clear i2
  simp only [gE] at c2
  obtain ⟨q3, c3, i3⟩ := h.oth 3 (by decide) (by decide)
  have I3 := Lib.hid i3; clear i3
  simp only [gE] at c3
  obtain ⟨q4, c4, i4⟩ := h.oth 4 (by decide) (by decide)
  have I4 := Lib.hid i4; clear i4
  simp only [gE] at c4
  obtain ⟨q5, c5, i5⟩ := h.oth 5 (by decide) (by decide)
  have I5 := Lib.hid i5; clear i5
  simp only [gE] at c5
  obtain ⟨q6, c6, i6⟩ := h.oth 6 (by decide) (by decide)
  have I6 := Lib.hid i6; clear i6
  simp only [gE] at c6
  obtain ⟨q7, c7, i7⟩ := h.oth 7 (by decide) (by decide)
  have I7 := Lib.hid i7; clear i7
  simp only [gE] at c7
  obtain ⟨q8, c8, i8⟩ := h.oth 8 (by decide) (by decide)
  have I8 := Lib.hid i8; clear i8
  simp only [gE] at c8
  obtain ⟨q9, c9, i9⟩ := h.oth 9 (by decide) (by decide)
  have I9 := Lib.hid i9; clear i9
  simp only [gE] at c9
  obtain ⟨q10, c10, i10⟩ := h.oth 10 (by decide) (by decide)
  have I10 := Lib.hid i10; clear i10
  simp only [gE] at c10
  have HR := Lib.hid (rest14_any h)
  clear h
  go_enter Tryz.func36, Tryz.ntmps36
  go_wp2_with fail
  refine I1.out.mono ?_
  rintro e w' ⟨rfl, rfl⟩
  go_wp2_with fail
  refine I2.out.mono ?_
  rintro e w' ⟨rfl, rfl⟩
  go_wp2_with fail
  refine I3.out.mono ?_
  rintro e w' ⟨rfl, rfl⟩
  go_wp2_with fail
  refine I4.out.mono ?_
  rintro e w' ⟨rfl, rfl⟩
  go_wp2_with fail
  refine I5.out.mono ?_
  rintro e w' ⟨rfl, rfl⟩
  go_wp2_with fail
  refine I6.out.mono ?_
  rintro e w' ⟨rfl, rfl⟩
  go_wp2_with fail
  refine I7.out.mono ?_
  rintro e w' ⟨rfl, rfl⟩
  go_wp2_with fail
  refine I8.out.mono ?_
  rintro e w' ⟨rfl, rfl⟩
  go_wp2_with fail
  refine I9.out.mono ?_
  rintro e w' ⟨rfl, rfl⟩
  go_wp2_with fail
  refine I10.out.mono ?_
  rintro e w' ⟨rfl, rfl⟩
  go_wp2_with fail
  refine HR.out.mono ?_
  rintro e w' ⟨rfl, rfl⟩
  go_wp2
  go_ret
  exact ⟨rfl, rfl⟩

set_option maxRecDepth 100000 in
set_option maxHeartbeats 2000000 in
theorem rest15_any {w : World} {T : TypeId} {x : Value} (h : CodeW w (.iface T x) 15) :
    Calls Tryz.prog 70 #[.iface T x] w fun e w' => e = .returned (.int .i64 15) ∧ w = w' := by
  obtain ⟨q11, c11, i11⟩ := h.oth 11 (by decide) (by decide)
  have I11 := Lib.hid i11; clear i11
  simp only [gE] at c11
  obtain ⟨q12, c12, i12⟩ := h.oth 12 (by decide) (by decide)
  have I12 := Lib.hid i12; clear i12
  simp only [gE] at c12
  obtain ⟨q13, c13, i13⟩ := h.oth 13 (by decide) (by decide)
  have I13 := Lib.hid i13; clear i13
  simp only [gE] at c13
  obtain ⟨q14, c14, i14⟩ := h.oth 14 (by decide) (by decide)
  have I14 := Lib.hid i14; clear i14
  simp only [gE] at c14
  obtain ⟨q15, c15, i15⟩ := h.same
  have I15 := Lib.hid i15; clear i15
  simp only [gE] at c15
  clear h
  go_enter Tryz.func70, Tryz.ntmps70
  go_wp2_with fail
  refine I11.out.mono ?_
  rintro e w' ⟨rfl, rfl⟩
  go_wp2_with fail
  refine I12.out.mono ?_
  rintro e w' ⟨rfl, rfl⟩
  go_wp2_with fail
  refine I13.out.mono ?_
  rintro e w' ⟨rfl, rfl⟩
  go_wp2_with fail
  refine I14.out.mono ?_
  rintro e w' ⟨rfl, rfl⟩
  go_wp2_with fail
  refine I15.out.mono ?_
  rintro e w' ⟨rfl, rfl⟩
  go_wp2
  go_ret
  exact ⟨rfl, rfl⟩

set_option maxRecDepth 100000 in
set_option maxHeartbeats 2000000 in
theorem code15_any {w : World} {T : TypeId} {x : Value} (h : CodeW w (.iface T x) 15) :
    Calls Tryz.prog 36 #[.iface T x] w fun e w' => e = .returned (.int .i64 15) ∧ w = w' := by
  obtain ⟨q1, c1, i1⟩ := h.oth 1 (by decide) (by decide)
  have I1 := Lib.hid i1; clear i1
  simp only [gE] at c1
  obtain ⟨q2, c2, i2⟩ := h.oth 2 (by decide) (by decide)
  have I2 := Lib.hid i2; clear i2
  simp only [gE] at c2
  obtain ⟨q3, c3, i3⟩ := h.oth 3 (by decide) (by decide)
  have I3 := Lib.hid i3; clear i3
  simp only [gE] at c3
  obtain ⟨q4, c4, i4⟩ := h.oth 4 (by decide) (by decide)
  have I4 := Lib.hid i4; clear i4
  simp only [gE] at c4
  obtain ⟨q5, c5, i5⟩ := h.oth 5 (by decide) (by decide)
  have I5 := Lib.hid i5; clear i5
  simp only [gE] at c5
  obtain ⟨q6, c6, i6⟩ := h.oth 6 (by decide) (by decide)
  have I6 := Lib.hid i6; clear i6
  simp only [gE] at c6
  obtain ⟨q7, c7, i7⟩ := h.oth 7 (by decide) (by decide)
  have I7 := Lib.hid i7; clear i7
  simp only [gE] at c7
  obtain ⟨q8, c8, i8⟩ := h.oth 8 (by decide) (by decide)
  have I8 := Lib.hid i8; clear i8
  simp only [gE] at c8
  obtain ⟨q9, c9, i9⟩ := h.oth 9 (by decide) (by decide)
  have I9 := Lib.hid i9; clear i9
  simp only [gE] at c9
  obtain ⟨q10, c10, i10⟩ := h.oth 10 (by decide) (by decide)
  have I10 := Lib.hid i10; clear i10
  simp only [gE] at c10
  have HR := Lib.hid (rest15_any h)
  clear h
  go_enter Tryz.func36, Tryz.ntmps36
  go_wp2_with fail
  refine I1.out.mono ?_
  rintro e w' ⟨rfl, rfl⟩
  go_wp2_with fail
  refine I2.out.mono ?_
  rintro e w' ⟨rfl, rfl⟩
  go_wp2_with fail
  refine I3.out.mono ?_
  rintro e w' ⟨rfl, rfl⟩
  go_wp2_with fail
  refine I4.out.mono ?_
  rintro e w' ⟨rfl, rfl⟩
  go_wp2_with fail
  refine I5.out.mono ?_
  rintro e w' ⟨rfl, rfl⟩
  go_wp2_with fail
  refine I6.out.mono ?_
  rintro e w' ⟨rfl, rfl⟩
  go_wp2_with fail
  refine I7.out.mono ?_
  rintro e w' ⟨rfl, rfl⟩
  go_wp2_with fail
  refine I8.out.mono ?_
  rintro e w' ⟨rfl, rfl⟩
  go_wp2_with fail
  refine I9.out.mono ?_
  rintro e w' ⟨rfl, rfl⟩
  go_wp2_with fail
  refine I10.out.mono ?_
  rintro e w' ⟨rfl, rfl⟩
  go_wp2_with fail
  refine HR.out.mono ?_
  rintro e w' ⟨rfl, rfl⟩
  go_wp2
  go_ret
  exact ⟨rfl, rfl⟩

/-- The codes that were walked. -/
def CodeIn (k : Nat) : Prop := k = 2 ∨ k = 3 ∨ k = 13 ∨ k = 14 ∨ k = 15
theorem code_any {w : World} {T : TypeId} {x : Value} {k : Nat} (hk : CodeIn k) (h : CodeW w (.iface T x) k) :
    Calls Tryz.prog 36 #[.iface T x] w fun e w' => e = .returned (.int .i64 (k : Int)) ∧ w = w' := by
  unfold CodeIn at hk
  rcases hk with rfl | rfl | rfl | rfl | rfl
  · exact code2_any h
  · exact code3_any h
  · exact code13_any h
  · exact code14_any h
  · exact code15_any h

/-! Told -/
theorem asFault (v : Value) (xT : TypeId) (w : World) : (Instr.typeAssert (.iface 73 v) xT 73 true).run Tryz.prog w = .ok (.tuple #[v, .bool true]) w := by kernel_rfl
theorem asFaultE (v : Value) (xT : TypeId) (w : World) : (Instr.typeAssert (.iface 285 v) xT 73 true).run Tryz.prog w = .ok (.tuple #[.pointer none, .bool false]) w := by kernel_rfl

set_option maxRecDepth 100000 in
theorem told_nil (a b : Int) (s : ByteArray) (w : World) : Calls Tryz.prog 14 #[.nilIface, .agg #[.int .i64 0, .int .i64 a, .int .i64 b, .string s]] w fun e w' => e = .returned (.bool true) ∧ Below w.heap.size w w' := by
  go_enter Tryz.func14, Tryz.ntmps14
  go_wp2_with fail
  go_ret
  exact ⟨rfl, (Below.refl _ _).alloc (Nat.le_refl _) _⟩

set_option maxRecDepth 100000 in
set_option maxHeartbeats 2000000 in
theorem told_one {p : Addr} {w : World} {k : Nat} (hk : CodeIn k) (hE : ErrsK k p w) {v : Value} {l : ByteArray} (hF : FaultAt w v l (.iface 285 (.pointer (some p)))) (hl : l.size ≤ 1000) :
    Calls Tryz.prog 14 #[v, .agg #[.int .i64 (k : Int), .int .i64 0, .int .i64 0, .string (l ++ ⟨#[32]⟩)]] w fun e w' => e = .returned (.bool true) ∧ Below w.heap.size w w' := by
  obtain ⟨fb, rfl, hf⟩ := hF.ex
  obtain ⟨W, hW⟩ : ∃ W, W = w.alloc (.cells #[.int .i64 (k : Int), .int .i64 0, .int .i64 0, .string (l ++ ⟨#[32]⟩)] 43) := ⟨_, rfl⟩
  have hB : Below w.heap.size w W := by rw [hW]; exact (Below.refl w.heap.size w).alloc (Nat.le_refl _) _
  have hb := heap_alloc_new w (.cells #[.int .i64 (k : Int), .int .i64 0, .int .i64 0, .string (l ++ ⟨#[32]⟩)] 43)
  rw [← hW] at hb
  have hf1 := (hB.block fb (Array.getElem?_eq_some_iff.1 hf).1).trans hf
  have e0 : W.cell? ⟨w.heap.size, 0, none⟩ = some (.int .i64 (k : Int)) := by simp [World.cell?, hb]
  have e1 : W.cell? ⟨w.heap.size, 1, none⟩ = some (.int .i64 0) := by simp [World.cell?, hb]
  have e2 : W.cell? ⟨w.heap.size, 2, none⟩ = some (.int .i64 0) := by simp [World.cell?, hb]
  have e3 : W.cell? ⟨w.heap.size, 3, none⟩ = some (.string (l ++ ⟨#[32]⟩)) := by simp [World.cell?, hb]
  have el := (Array.getElem?_eq_some_iff.1 hb).1
  have f0 : W.cell? ⟨fb, 0, none⟩ = some (.string l) := by simp [World.cell?, hf1]
  have f1 : W.cell? ⟨fb, 1, none⟩ = some (.int .i64 0) := by simp [World.cell?, hf1]
  have f2 : W.cell? ⟨fb, 2, none⟩ = some (.int .i64 0) := by simp [World.cell?, hf1]
  have f3 : W.cell? ⟨fb, 3, none⟩ = some (.iface 285 (.pointer (some p))) := by simp [World.cell?, hf1]
  have fl := (Array.getElem?_eq_some_iff.1 hf1).1
  have HC1 : RowKit.Hid (∀ V, Below W.heap.size W V → Calls Tryz.prog 36 #[.iface 73 (.pointer (some ⟨fb, 0, none⟩))] V fun e w' => e = .returned (.int .i64 (k : Int)) ∧ V = w') := Lib.hid (fun V hV => code_any hk (codeW1 ((hE.below hB).below hV) (by rw [hV.cell (p := ⟨fb, 3, none⟩) fl]; exact f3)))
  have HC0 : RowKit.Hid (∀ V, Below W.heap.size W V → Calls Tryz.prog 36 #[.iface 285 (.pointer (some p))] V fun e w' => e = .returned (.int .i64 (k : Int)) ∧ V = w') := Lib.hid (fun V hV => code_any hk (codeW0 ((hE.below hB).below hV)))
  have hk0 : ((k : Int) == 0) = false := by unfold CodeIn at hk; simp; omega
  have HB := Lib.hid hB
  have hz1 : ¬ 9223372036854775807 < l.size := by omega
  have hz2 : ¬ 9223372036854775807 < l.size + 1 := by omega
  have hem : ({ data := #[] } : ByteArray) ++ l = l := ByteArray.empty_append
  have aF := asFault
  have aE := asFaultE
  have HWE := Lib.hid hW
  clear hE hf hB hf1 hk hF hb hW
  go_enter Tryz.func14, Tryz.ntmps14
  go_wp2_with fail
  rw [← HWE.out]
  go_region_held3 (fun w' => w'.cell? ⟨w.heap.size, 0, none⟩ = some (.int .i64 (k : Int))) (first | exact e0 | assumption) ((go_at_call 36; refine (HC1.out _ (Below.refl _ _).drew).mono ?_; rintro e w5 ⟨rfl, rfl⟩))
  go_wp2_with fail
  refine wp_loop_rounds 2 ?_
  rw [rounds_succ]
  go_wp2_with fail
  go_quiet (fail)
  go_wp2_with fail
  try rw [hem]
  rw [rounds_succ]
  go_wp2_with fail
  go_region_held3 (fun w' => w'.cell? ⟨w.heap.size, 0, none⟩ = some (.int .i64 (k : Int)) ∧ w'.cell? ⟨w.heap.size, 3, none⟩ = some (.string (l ++ ⟨#[32]⟩))) (first | exact ⟨e0, e3⟩ | assumption) ((go_at_call 36; refine (HC0.out (W.drewN _) (bdrew (Below.refl _ _))).mono ?_; rintro e w5 ⟨rfl, rfl⟩))
  go_wp2_with fail
  go_ret
  exact ⟨rfl, bdrew HB.out⟩
set_option maxRecDepth 100000 in
set_option maxHeartbeats 2000000 in
theorem told_two {p : Addr} {w : World} {k : Nat} (hk : CodeIn k) (hE : ErrsK k p w) {v vi : Value} {l m : ByteArray} (hF : FaultAt w v l vi) (hF2 : FaultAt w vi m (.iface 285 (.pointer (some p)))) (hl : l.size ≤ 1000) (hm : m.size ≤ 1000) :
    Calls Tryz.prog 14 #[v, .agg #[.int .i64 (k : Int), .int .i64 0, .int .i64 0, .string (l ++ ⟨#[32]⟩ ++ m ++ ⟨#[32]⟩)]] w fun e w' => e = .returned (.bool true) ∧ Below w.heap.size w w' := by
  obtain ⟨fb, rfl, hf⟩ := hF.ex
  obtain ⟨fc, rfl, hg⟩ := hF2.ex
  obtain ⟨W, hW⟩ : ∃ W, W = w.alloc (.cells #[.int .i64 (k : Int), .int .i64 0, .int .i64 0, .string (l ++ ⟨#[32]⟩ ++ m ++ ⟨#[32]⟩)] 43) := ⟨_, rfl⟩
  have hB : Below w.heap.size w W := by rw [hW]; exact (Below.refl w.heap.size w).alloc (Nat.le_refl _) _
  have hb := heap_alloc_new w (.cells #[.int .i64 (k : Int), .int .i64 0, .int .i64 0, .string (l ++ ⟨#[32]⟩ ++ m ++ ⟨#[32]⟩)] 43)
  rw [← hW] at hb
  have hf1 := (hB.block fb (Array.getElem?_eq_some_iff.1 hf).1).trans hf
  have hg1 := (hB.block fc (Array.getElem?_eq_some_iff.1 hg).1).trans hg
  have e0 : W.cell? ⟨w.heap.size, 0, none⟩ = some (.int .i64 (k : Int)) := by simp [World.cell?, hb]
  have e1 : W.cell? ⟨w.heap.size, 1, none⟩ = some (.int .i64 0) := by simp [World.cell?, hb]
  have e2 : W.cell? ⟨w.heap.size, 2, none⟩ = some (.int .i64 0) := by simp [World.cell?, hb]
  have e3 : W.cell? ⟨w.heap.size, 3, none⟩ = some (.string (l ++ ⟨#[32]⟩ ++ m ++ ⟨#[32]⟩)) := by simp [World.cell?, hb]
  have el := (Array.getElem?_eq_some_iff.1 hb).1
  have f0 : W.cell? ⟨fb, 0, none⟩ = some (.string l) := by simp [World.cell?, hf1]
  have f1 : W.cell? ⟨fb, 1, none⟩ = some (.int .i64 0) := by simp [World.cell?, hf1]
  have f2 : W.cell? ⟨fb, 2, none⟩ = some (.int .i64 0) := by simp [World.cell?, hf1]
  have f3 : W.cell? ⟨fb, 3, none⟩ = some (.iface 73 (.pointer (some ⟨fc, 0, none⟩))) := by simp [World.cell?, hf1]
  have g0 : W.cell? ⟨fc, 0, none⟩ = some (.string m) := by simp [World.cell?, hg1]
  have g1 : W.cell? ⟨fc, 1, none⟩ = some (.int .i64 0) := by simp [World.cell?, hg1]
  have g2 : W.cell? ⟨fc, 2, none⟩ = some (.int .i64 0) := by simp [World.cell?, hg1]
  have g3 : W.cell? ⟨fc, 3, none⟩ = some (.iface 285 (.pointer (some p))) := by simp [World.cell?, hg1]
  have gl := (Array.getElem?_eq_some_iff.1 hg1).1
  have fl := (Array.getElem?_eq_some_iff.1 hf1).1
  have HC1 : RowKit.Hid (∀ V, Below W.heap.size W V → Calls Tryz.prog 36 #[.iface 73 (.pointer (some ⟨fb, 0, none⟩))] V fun e w' => e = .returned (.int .i64 (k : Int)) ∧ V = w') := Lib.hid (fun V hV => code_any hk (codeW2 ((hE.below hB).below hV) (by rw [hV.cell (p := ⟨fb, 3, none⟩) fl]; exact f3) (by rw [hV.cell (p := ⟨fc, 3, none⟩) gl]; exact g3)))
  have HC0 : RowKit.Hid (∀ V, Below W.heap.size W V → Calls Tryz.prog 36 #[.iface 285 (.pointer (some p))] V fun e w' => e = .returned (.int .i64 (k : Int)) ∧ V = w') := Lib.hid (fun V hV => code_any hk (codeW0 ((hE.below hB).below hV)))
  have hk0 : ((k : Int) == 0) = false := by unfold CodeIn at hk; simp; omega
  have HB := Lib.hid hB
  have hz1 : ¬ 9223372036854775807 < l.size := by omega
  have hz2 : ¬ 9223372036854775807 < l.size + 1 := by omega
  have hz3 : ¬ 9223372036854775807 < l.size + 1 + m.size := by omega
  have hz4 : ¬ 9223372036854775807 < l.size + 1 + m.size + 1 := by omega
  have hem : ({ data := #[] } : ByteArray) ++ l = l := ByteArray.empty_append
  have aF := asFault
  have aE := asFaultE
  have HWE := Lib.hid hW
  clear hE hf hg hB hf1 hg1 hk hF hF2 hb hW
  go_enter Tryz.func14, Tryz.ntmps14
  go_wp2_with fail
  rw [← HWE.out]
  go_region_held3 (fun w' => w'.cell? ⟨w.heap.size, 0, none⟩ = some (.int .i64 (k : Int))) (first | exact e0 | assumption) ((go_at_call 36; refine (HC1.out _ (Below.refl _ _).drew).mono ?_; rintro e w5 ⟨rfl, rfl⟩))
  go_wp2_with fail
  refine wp_loop_rounds 3 ?_
  rw [rounds_succ]
  go_wp2_with fail
  go_quiet (fail)
  go_wp2_with fail
  try rw [hem]
  rw [rounds_succ]
  go_wp2_with fail
  go_quiet (fail)
  go_wp2_with fail
  rw [rounds_succ]
  go_wp2_with fail
  go_region_held3 (fun w' => w'.cell? ⟨w.heap.size, 0, none⟩ = some (.int .i64 (k : Int)) ∧ w'.cell? ⟨w.heap.size, 3, none⟩ = some (.string (l ++ ⟨#[32]⟩ ++ m ++ ⟨#[32]⟩))) (first | exact ⟨e0, e3⟩ | assumption) ((go_at_call 36; refine (HC0.out (W.drewN _) (bdrew (Below.refl _ _))).mono ?_; rintro e w5 ⟨rfl, rfl⟩))
  go_wp2_with fail
  go_ret
  exact ⟨rfl, bdrew HB.out⟩
end Go.Proofs.YtdhloijdefnkpaaGreatDoor

namespace Go.Proofs.YtdhloijdefnkpaaGreatDoor
open Go.ChangeShapes Go.WideShapes Go.ChangeAt Go.RowKit Go.Lib

theorem GErr.uniq {g : Nat} {p q : Addr} {W : World} (h : GErr g p W) (h' : GErr g q W) : p = q := by
  have h1 := h.cell
  rw [h'.cell] at h1
  simp only [Option.some.injEq, Value.iface.injEq, Value.pointer.injEq, true_and] at h1
  exact h1.symm
theorem sent_pair {n0 n1 : String} {g0 g1 : Nat} {d0 d1 : List UInt8} {W : World} (h : laidMet Tryz.prog [(n0, .iface "*errors.errorString" (.ptr (.agg [.lit (.string d0)]))), (n1, .iface "*errors.errorString" (.ptr (.agg [.lit (.string d1)])))] W)
    (hg0 : Tryz.prog.globalNamed n0 = some g0) (ht0 : (Tryz.prog.globals[g0]?).map (·.type) = some 28) (hg1 : Tryz.prog.globalNamed n1 = some g1) (ht1 : (Tryz.prog.globals[g1]?).map (·.type) = some 28) :
    ∃ a0 a1, GErr g0 a0 W ∧ GErr g1 a1 W ∧ a0 ≠ a1 ∧ (∃ c t, W.heap[a0.block]? = some (.cells c t (0, 0))) ∧ (∃ c t, W.heap[a1.block]? = some (.cells c t (0, 0))) := by
  obtain ⟨a0, a1, s0, s1, c0, c1, t0, t1, hv0, hv1, _, _, _, _, _, _, hne, hb0, hb1⟩ := laid_sentinels2 (g0 := g0) (g1 := g1) h hg0 ht0 hg1 ht1 Tryz.underlying28 row_es Tryz.underlying285 Tryz.underlying303 rfl rfl Tryz.underlying9 (by kernel_rfl) (by kernel_rfl)
  have hcell0 := World.var?_cell (g := g0) hg0 hv0 0
  have hcell0 : W.cell? ⟨g0, 0, none⟩ = some (.iface 285 (.pointer (some a0))) := by simpa using hcell0
  have hcell1 := World.var?_cell (g := g1) hg1 hv1 0
  have hcell1 : W.cell? ⟨g1, 0, none⟩ = some (.iface 285 (.pointer (some a1))) := by simpa using hcell1
  exact ⟨a0, a1, ⟨World.block_lt_of_cell? _ _ hcell0, hcell0⟩, ⟨World.block_lt_of_cell? _ _ hcell1, hcell1⟩, hne, ⟨c0, t0, hb0⟩, ⟨c1, t1, hb1⟩⟩
/-- The first of two, seen from the second. -/
theorem sent_first {gk gj : Nat} {p : Addr} {W : World} (hk : GErr gk p W) (h : ∃ a0 a1, GErr gj a0 W ∧ GErr gk a1 W ∧ a0 ≠ a1 ∧ (∃ c t, W.heap[a0.block]? = some (.cells c t (0, 0))) ∧ (∃ c t, W.heap[a1.block]? = some (.cells c t (0, 0)))) : SentQ gj p W ∧ ∃ c t, W.heap[p.block]? = some (.cells c t (0, 0)) := by
  obtain ⟨a0, a1, h0, h1, hne, ⟨c, t, hb⟩, hc⟩ := h
  obtain rfl := hk.uniq h1
  exact ⟨⟨a0, c, t, h0, hne, hb⟩, hc⟩
theorem sent_second {gk gj : Nat} {p : Addr} {W : World} (hk : GErr gk p W) (h : ∃ a0 a1, GErr gk a0 W ∧ GErr gj a1 W ∧ a0 ≠ a1 ∧ (∃ c t, W.heap[a0.block]? = some (.cells c t (0, 0))) ∧ (∃ c t, W.heap[a1.block]? = some (.cells c t (0, 0)))) : SentQ gj p W ∧ ∃ c t, W.heap[p.block]? = some (.cells c t (0, 0)) := by
  obtain ⟨a0, a1, h0, h1, hne, hc, ⟨c, t, hb⟩⟩ := h
  obtain rfl := hk.uniq h0
  exact ⟨⟨a1, c, t, h1, Ne.symm hne, hb⟩, hc⟩
end Go.Proofs.YtdhloijdefnkpaaGreatDoor
