/-
  tauscc.Order: all states, what silent steps lead to ahead.
-/
import Derived.Test.YtbbjmompbmgnmaaDoorTauI
import Derived.Test.YtbbjmompbmgnmaaDoorPl12
namespace Go.Proofs.YtbbjmompbmgnmaaDoor
open Go.RowKit Pl

set_option maxRecDepth 100000 in
theorem orderNo_any {p : Addr} {s : Lts} (h : ¬ s.Right) {a : Option Addr} {b off c : Nat} {w : World} (hG : GErr 0 p w) (hT : ErrType w) (hS : SlAt encE 3 w a b off s.es) :
    Calls Tryd.prog 33 #[.agg #[.int .i64 s.st, .int .i64 s.lb, .int .i64 s.s0, .slice a s.es.length c]] w fun e w' =>
      ∃ v, e = .returned (.tuple #[.slice none 0 0, v]) ∧ Fault2 w' p v ∧ Below w.heap.size w w' := by
  have hB0 := (Below.refl w.heap.size w).alloc (Nat.le_refl _) (Obj.cells #[.int .i64 s.st, .int .i64 s.lb, .int .i64 s.s0, .slice a s.es.length c] 24)
  have hN := collapseNo_any (c := c) h (hG.below hB0) (hT.below hB0) (hS.below hB0 (Nat.le_refl _))
  have HN := Lib.hid hN; have HB0 := Lib.hid hB0
  clear hN hB0 hS hG h hT
  go_enter Tryd.func33, Tryd.ntmps33
  go_wp2_with fail
  refine HN.out.mono ?_
  rintro e w1 ⟨v, rfl, hF, hB1⟩
  obtain ⟨vi, hf1, hf2⟩ := id hF
  obtain ⟨fb, rfl, _⟩ := hf1.ex
  have HF := Lib.hid (hF.below ((Below.refl w1.heap.size w1).alloc (Nat.le_refl _) (Obj.cells #[.int .i64 0, .int .i64 0, .int .i64 0, .slice none 0 0] 24)))
  have hB := HB0.out.trans (hB1.mono (by simp))
  have HB := Lib.hid (hB.alloc hB.size (Obj.cells #[.int .i64 0, .int .i64 0, .int .i64 0, .slice none 0 0] 24))
  clear hf1 hf2 hF hB1 hB
  go_wp2
  go_ret2
  exact ⟨_, rfl, HF.out, HB.out⟩

/-- A row of lists that grow one by one; nothing else that stood is touched. -/
structure OG (w1 wr : World) (ob n : Nat) (f : Nat → List Int) : Prop where
  rows : OwnRows encI 1 3 25 wr w1.heap.size ob n f
  bel : Below ob w1 wr
  oth : ∀ b, b < w1.heap.size → b ≠ ob → wr.heap[b]? = w1.heap[b]?
theorem OG.sl {α : Type} {enc : α → List Value} {m : Nat} {w1 wr : World} {ob n : Nat} {f : Nat → List Int} {a : Option Addr} {b off : Nat} {xs : List α} (h : OG w1 wr ob n f) (hS : SlAt enc m w1 a b off xs) (hb : 0 < xs.length → b ≠ ob) : SlAt enc m wr a b off xs :=
  ⟨hS.ad, fun hp => Nat.lt_of_lt_of_le (hS.lt hp) h.bel.size, fun i x hx j u hu => by
    have hp : 0 < xs.length := by have := (List.getElem?_eq_some_iff.1 hx).1; omega
    rw [World.cell?_of_block (w := w1) (a := ⟨b, off + i * m + j, none⟩) (h.oth b (hS.lt hp) (hb hp))]
    exact hS.cell i x hx j u hu⟩
theorem OG.congr {w1 wr : World} {ob n : Nat} {f f' : Nat → List Int} (h : OG w1 wr ob n f) (e : ∀ i, f i = f' i) : OG w1 wr ob n f' := by
  have : f = f' := funext e
  rw [← this]; exact h
theorem OG.open {w1 wr : World} {ob n : Nat} {f : Nat → List Int} (h : OG w1 wr ob n f) {p : Nat} (hp : p < n) : ∃ v, wr.cell? ⟨ob, p, none⟩ = some v ∧ wr.frozen? ⟨ob, p, none⟩ = false ∧ wr.ownsRow w1.heap.size 3 1 v (f p).length ((f p).flatMap encI) ∧
    ∀ (w2 w3 : World) (g cap : Nat) (ys : List Int), Below wr.heap.size wr w2 → w3.ownsRow w1.heap.size 3 1 (.slice (some ⟨g, 0, none⟩) ys.length cap) ys.length (ys.flatMap encI) → w2.grownBy w3 v.ownBlock → (v.ownBlock = some g ∨ wr.heap.size ≤ g) →
      w3.cell? ⟨ob, p, none⟩ = some v ∧ w3.frozen? ⟨ob, p, none⟩ = false ∧
      OG w1 (w3.setCell ⟨ob, p, none⟩ (.slice (some ⟨g, 0, none⟩) ys.length cap)) ob n (fun i => if i = p then ys else f i) := by
  obtain ⟨v, h1, h2, h3, h4⟩ := h.rows.open hp
  refine ⟨v, h1, h2, h3, fun w2 w3 g cap ys hB hown hg hgg => ?_⟩
  have hs := h.bel.size
  have hob := h.rows.lt
  obtain ⟨h5, h6, h7⟩ := h4 w2 w3 g cap ys hB (Nat.le_trans hs hB.size) hown hg hgg
  have hv : ∀ b, b < w1.heap.size → some b ≠ v.ownBlock := fun b hb e => by have := (h3.lt b e.symm).1; omega
  refine ⟨h5, h6, h7, ((h.bel.trans (hB.mono (by omega))).grown hg (by have := hB.size; omega) (fun k hk => by have := (h3.lt k hk).1; omega)).setCell (Nat.le_refl _) _, fun b hb hne => ?_⟩
  rw [Below.heap_setCell _ _ _ _ hne, hg.block b (by have := hB.size; omega) (hv b hb), hB.block b (by omega)]
  exact h.oth b hb hne

/-- The states of a class, of the first k. -/
def memK (C : List Int) (k : Nat) (c : Int) : List Int := ((List.range k).filter (fun x => decide (C[x]? = some c))).map Int.ofNat
theorem memK_snoc {C : List Int} {k : Nat} {x : Int} (hx : C[k]? = some x) (c : Int) : memK C (k + 1) c = if x = c then memK C k c ++ [(k : Int)] else memK C k c := by
  unfold memK
  rw [List.range_succ, List.filter_append, List.map_append]
  by_cases h : x = c
  · subst h; rw [if_pos rfl]; simp [hx]
  · rw [if_neg h]; simp [hx, h]
theorem memK_len (C : List Int) (k : Nat) (c : Int) : (memK C k c).length ≤ k := by
  unfold memK
  rw [List.length_map]
  have := List.length_filter_le (fun x => decide (C[x]? = some c)) (List.range k)
  rwa [List.length_range] at this
end Go.Proofs.YtbbjmompbmgnmaaDoor
