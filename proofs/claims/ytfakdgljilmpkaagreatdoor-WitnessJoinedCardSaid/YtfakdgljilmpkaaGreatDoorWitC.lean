/-
  witness.walk: over all pairs that are together, whatever kind of steps is noted.
-/
import Derived.Test.YtfakdgljilmpkaaGreatDoorWitB
import Derived.Test.YtfakdgljilmpkaaGreatDoorG11
namespace Go.Proofs.YtfakdgljilmpkaaGreatDoor
open Go.RowKit Pl

theorem rowM : IsRow Tryz.prog 174 177 1 8 (.map none) := isRow_of Tryz.underlying174 (by kernel_rfl) rfl (by decide)

/-- The world within walk, the maps of the first states being made. -/
structure WK (w0 wr : World) (cv : Value) (dv : Value) (ms : List Value) (D : Nat → List S) : Prop where
  bel : Below w0.heap.size w0 wr
  res : wr.heap[w0.heap.size]? = some (.cells #[.int .i64 0, .int .i64 0, .int .i64 0, .int .i64 0] 58 (0, 0))
  blk : wr.heap[w0.heap.size + 1]? = some (.cells #[cv, dv] 176 (0, 0))
  own : wr.ownsRow (w0.heap.size + 2) 177 1 dv ms.length (ms.flatMap encV)
  maps : ∀ q x, ms[q]? = some x → ∃ mb k, x = .map (some mb) ∧ w0.heap.size + 2 ≤ mb ∧ OMap wr mb encSv okS encU (addU (fun _ => none) (D q)) k

theorem WK.call {w0 wr w' : World} {cv dv : Value} {ms : List Value} {D : Nat → List S} (h : WK w0 wr cv dv ms D) (hB : Below wr.heap.size wr w') : WK w0 w' cv dv ms D :=
  ⟨h.bel.trans (hB.mono h.bel.size), by rw [hB.block _ (Array.getElem?_eq_some_iff.1 h.res).1]; exact h.res, by rw [hB.block _ (Array.getElem?_eq_some_iff.1 h.blk).1]; exact h.blk, own_below h.own hB, fun q x hx => by
    obtain ⟨mb, k, h1, h2, h3⟩ := h.maps q x hx
    exact ⟨mb, k, h1, h2, h3.of_block (hB.block _ h3.lt)⟩⟩
theorem WK.blk6 {w0 wr wb w1 : World} {cv dv : Value} {ms : List Value} {D : Nat → List S} (h : WK w0 wr cv dv ms D) (hB : Below wr.heap.size wr wb) (hg : wb.grownBy w1 dv.ownBlock) :
    w1.cell? ⟨w0.heap.size + 1, 1, none⟩ = some dv ∧ w1.frozen? ⟨w0.heap.size + 1, 1, none⟩ = false ∧ w0.heap.size + 1 < w1.heap.size := by
  have hb := h.call hB
  have h1 : w1.heap[w0.heap.size + 1]? = some (.cells #[cv, dv] 176 (0, 0)) := by
    rw [hg.block _ (Array.getElem?_eq_some_iff.1 hb.blk).1 (fun e => by have := (hb.own.lt _ e.symm).1; omega)]; exact hb.blk
  exact ⟨by simp [World.cell?, h1], by simp [World.frozen?, h1], (Array.getElem?_eq_some_iff.1 h1).1⟩
/-- One map more: appended (w1), its row stored back. -/
theorem WK.push {w0 wr wb w1 : World} {cv dv : Value} {ms : List Value} {D : Nat → List S} (h : WK w0 wr cv dv ms D) {mb : Nat} {k : Nat} (hmb : w0.heap.size + 2 ≤ mb) (hm : OMap wr mb encSv okS encU (addU (fun _ => none) (D ms.length)) k)
    (hB : Below wr.heap.size wr wb) {g cap : Nat} (hown : w1.ownsRow (w0.heap.size + 2) 177 1 (.slice (some ⟨g, 0, none⟩) (ms.length + 1) cap) (ms.length + 1) (ms.flatMap encV ++ [.map (some mb)])) (hg : wb.grownBy w1 dv.ownBlock) :
    WK w0 (w1.setCell ⟨w0.heap.size + 1, 1, none⟩ (.slice (some ⟨g, 0, none⟩) (ms.length + 1) cap)) cv (.slice (some ⟨g, 0, none⟩) (ms.length + 1) cap) (ms ++ [.map (some mb)]) D := by
  have hb := h.call hB
  have hlt : ∀ k, dv.ownBlock = some k → w0.heap.size + 2 ≤ k := fun k e => (hb.own.lt k e).1
  have hblk : ∀ b, b < wb.heap.size → dv.ownBlock ≠ some b → w1.heap[b]? = wb.heap[b]? := fun b h1 h2 => hg.block b h1 (fun e => h2 e.symm)
  have hmap : ∀ {x f n}, OMap wb x encSv okS encU f n → OMap w1 x encSv okS encU f n := fun {x f n} hx => by
    refine hx.of_block (hblk x hx.lt (fun e => ?_))
    obtain ⟨es, cl, he⟩ := hx.block
    rcases hb.own.2 with ⟨h2, _⟩ | ⟨gg, cap, cur, hv, _, hgg, _⟩
    · rw [h2] at e; cases e
    · rw [hv] at e; simp only [Value.ownBlock, Option.some.injEq] at e; subst e; rw [hgg] at he; cases he
  have hgl : w0.heap.size + 2 ≤ g := (hown.lt g rfl).1
  have hset : ∀ b, b ≠ w0.heap.size + 1 → (w1.setCell ⟨w0.heap.size + 1, 1, none⟩ (.slice (some ⟨g, 0, none⟩) (ms.length + 1) cap)).heap[b]? = w1.heap[b]? := fun b hb => Below.heap_setCell _ _ _ _ hb
  refine ⟨(hb.bel.grown hg hb.bel.size (fun k e => by have := hlt k e; omega)).setCell (by show w0.heap.size ≤ w0.heap.size + 1; omega) _, ?_, ?_, ?_, fun q x hx => ?_⟩
  · rw [hset _ (by omega), hblk _ (Array.getElem?_eq_some_iff.1 hb.res).1 (fun e => by have := hlt _ e; omega)]; exact hb.res
  · have h1 : w1.heap[w0.heap.size + 1]? = some (.cells #[cv, dv] 176 (0, 0)) := by rw [hblk _ (Array.getElem?_eq_some_iff.1 hb.blk).1 (fun e => by have := hlt _ e; omega)]; exact hb.blk
    exact heap_setCell_same w1 (w0.heap.size + 1) 1 #[cv, dv] 176 _ h1
  · have e1 : (ms ++ [Value.map (some mb)]).flatMap encV = ms.flatMap encV ++ [.map (some mb)] := by rw [List.flatMap_append]; rfl
    rw [e1, List.length_append]
    exact ownsRow_setCell_below hown (show w0.heap.size + 1 < w0.heap.size + 2 by omega) _
  · rcases Nat.lt_or_ge q ms.length with hq | hq
    · rw [List.getElem?_append_left hq] at hx
      obtain ⟨mb', k', h1, h2, h3⟩ := hb.maps q x hx
      exact ⟨mb', k', h1, h2, (hmap h3).of_block (hset mb' (by omega))⟩
    · have hq2 : q = ms.length := by have := (List.getElem?_eq_some_iff.1 hx).1; simp at this; omega
      subst hq2
      simp at hx
      exact ⟨mb, k, hx.symm, hmb, (hmap (hm.of_block (hB.block _ hm.lt))).of_block (hset mb (by omega))⟩
end Go.Proofs.YtfakdgljilmpkaaGreatDoor
