/-
  A matrix of bools in memory, row by row (WeakSilence).
-/
import Derived.Test.YtdhloijdefnkpaaGreatDoorWkW
namespace Go.Proofs.YtdhloijdefnkpaaGreatDoor
open Go.RowKit Pl

/-- The first i rows are laid; row p reads as G p. -/
structure InT (w : World) (ib n : Nat) (G : Nat → Nat → Bool) (i : Nat) : Prop where
  ex : ∃ bk : Nat → Nat, w.rowIs ib 32 n (fun p => if p < i then .slice (some ⟨bk p, 0, none⟩) n n else .slice none 0 0) ∧ (∀ p, p < i → ib < bk p ∧ w.rowIs (bk p) 4 n (fun q => .bool (G p q))) ∧ ∀ p q, p < i → q < i → p ≠ q → bk p ≠ bk q
section
variable {w w' : World} {ib n i : Nat} {G : Nat → Nat → Bool}
theorem InT.call (h : InT w ib n G i) (hB : Below w.heap.size w w') : InT w' ib n G i := by
  obtain ⟨bk, h1, h2, h3⟩ := h.ex
  exact ⟨bk, h1.of_block (hB.block ib h1.lt), fun p hp => ⟨(h2 p hp).1, (h2 p hp).2.of_block (hB.block _ (h2 p hp).2.lt)⟩, h3⟩
theorem InT.lt (h : InT w ib n G i) : ib < w.heap.size := by obtain ⟨_, h1, _⟩ := h.ex; exact h1.lt
theorem InT.frozen (h : InT w ib n G i) (p : Nat) : w.frozen? ⟨ib, p, none⟩ = false := by obtain ⟨_, h1, _⟩ := h.ex; exact h1.frozen p
theorem InT.here (h : InT w ib n G i) (hin : i < n) : w.cell? ⟨ib, i, none⟩ = some (.slice none 0 0) := by
  obtain ⟨_, h1, _⟩ := h.ex
  have := h1.cell hin
  rwa [if_neg (Nat.lt_irrefl i)] at this
theorem InT.made (w : World) (n : Nat) (G : Nat → Nat → Bool) : InT (w.alloc (.cells (madeCells #[.slice none 0 0] n) 32)) w.heap.size n G 0 :=
  ⟨fun _ => 0, (World.rowIs_made w (.slice none 0 0) n 32).congr (fun p _ => by simp), fun p hp => by omega, fun p q hp => by omega⟩
/-- Row p, and what a store into it leaves. -/
theorem InT.at (h : InT w ib n G i) {p : Nat} (hp : p < i) (hpn : p < n) : ∃ b, w.cell? ⟨ib, p, none⟩ = some (.slice (some ⟨b, 0, none⟩) n n) ∧ ib < b ∧ w.rowIs b 4 n (fun q => .bool (G p q)) ∧
    ∀ q, InT (w.setCell ⟨b, q, none⟩ (.bool true)) ib n (fun a c => if a = p ∧ c = q then true else G a c) i := by
  obtain ⟨bk, h1, h2, h3⟩ := h.ex
  have hc := h1.cell hpn
  rw [if_pos hp] at hc
  refine ⟨bk p, hc, (h2 p hp).1, (h2 p hp).2, fun q => ⟨bk, h1.of_block (Below.heap_setCell _ _ _ _ (by have := (h2 p hp).1; show ib ≠ bk p; omega)), fun a ha => ⟨(h2 a ha).1, ?_⟩, h3⟩⟩
  by_cases e : a = p
  · subst e
    refine ((h2 a ha).2.set q (.bool true)).congr (fun c _ => ?_)
    by_cases e2 : c = q
    · simp [e2]
    · simp [e2]
  · refine ((h2 a ha).2.of_block (Below.heap_setCell _ _ _ _ (by show bk a ≠ bk p; exact h3 a p ha hp e))).congr (fun c _ => by simp [e])
/-- The next row is put in its place. -/
theorem InT.push (h : InT w ib n G i) {b : Nat} (hB : Below w.heap.size w w') (hb : w.heap.size ≤ b) (hr : w'.rowIs b 4 n (fun q => .bool (G i q))) : InT (w'.setCell ⟨ib, i, none⟩ (.slice (some ⟨b, 0, none⟩) n n)) ib n G (i + 1) := by
  obtain ⟨bk, h1, h2, h3⟩ := (h.call hB).ex
  have hl := h.lt
  have hold : ∀ p, p < i → bk p < w.heap.size ∨ w.heap.size ≤ bk p := fun p _ => by omega
  obtain ⟨bk0, g1, g2, g3⟩ := h.ex
  refine ⟨updO bk0 i b, ((g1.of_block (hB.block ib g1.lt)).set i _).congr (fun p _ => ?_), fun p hp => ?_, fun p q hp hq hne => ?_⟩
  · by_cases e : p = i
    · subst e; rw [if_pos rfl, if_pos (by omega), updO_same]
    · rw [if_neg e, updO_ne _ _ e]
      by_cases e2 : p < i
      · rw [if_pos e2, if_pos (by omega)]
      · rw [if_neg e2, if_neg (by omega)]
  · by_cases e : p = i
    · subst e; rw [updO_same]; exact ⟨by omega, hr.of_block (Below.heap_setCell _ _ _ _ (by show b ≠ ib; omega))⟩
    · rw [updO_ne _ _ e]
      have h5 := g2 p (by omega)
      exact ⟨h5.1, (h5.2.of_block (hB.block _ h5.2.lt)).of_block (Below.heap_setCell _ _ _ _ (by show bk0 p ≠ ib; omega))⟩
  · by_cases e : p = i
    · subst e; rw [updO_same, updO_ne _ _ (Ne.symm hne)]; have := (g2 q (by omega)).2.lt; omega
    · by_cases e2 : q = i
      · subst e2; rw [updO_same, updO_ne _ _ e]; have := (g2 p (by omega)).2.lt; omega
      · rw [updO_ne _ _ e, updO_ne _ _ e2]; exact g3 p q (by omega) (by omega) hne
theorem InT.congr {G' : Nat → Nat → Bool} (h : InT w ib n G i) (e : ∀ a c, a < i → c < n → G a c = G' a c) : InT w ib n G' i := by
  obtain ⟨bk, h1, h2, h3⟩ := h.ex
  exact ⟨bk, h1, fun p hp => ⟨(h2 p hp).1, (h2 p hp).2.congr (fun c hc => by rw [e p c hp hc])⟩, h3⟩
/-- The next row, all false. -/
theorem InT.next (h : InT w ib n G i) : InT ((w.setCell ⟨ib, i, none⟩ (.slice (some ⟨w.heap.size, 0, none⟩) n n)).alloc (.cells (madeCells #[.bool false] n) 4)) ib n (fun a c => if a = i then false else G a c) (i + 1) := by
  have h0 := h.congr (G' := fun a c => if a = i then false else G a c) (fun a c ha _ => by rw [if_neg (by omega)])
  have hz : (w.setCell ⟨ib, i, none⟩ (.slice (some ⟨w.heap.size, 0, none⟩) n n)).heap.size = w.heap.size := size_setCell _ _ _
  have hr := World.rowIs_made (w.setCell ⟨ib, i, none⟩ (.slice (some ⟨w.heap.size, 0, none⟩) n n)) (.bool false) n 4
  rw [hz] at hr
  obtain ⟨bk, h1, h2, h3⟩ := h0.ex
  have hl := h0.lt
  have hlt : ∀ p, p < i → bk p < w.heap.size := fun p hp => (h2 p hp).2.lt
  refine ⟨updO bk i w.heap.size, ((h1.set i (.slice (some ⟨w.heap.size, 0, none⟩) n n)).alloc _).congr (fun p _ => ?_), fun p hp => ?_, fun p q hp hq hne => ?_⟩
  · by_cases e : p = i
    · subst e; rw [if_pos rfl, if_pos (by omega), updO_same]
    · rw [if_neg e, updO_ne _ _ e]
      by_cases e2 : p < i
      · rw [if_pos e2, if_pos (by omega)]
      · rw [if_neg e2, if_neg (by omega)]
  · by_cases e : p = i
    · subst e; rw [updO_same]; exact ⟨hl, hr.congr (fun c _ => by simp)⟩
    · rw [updO_ne _ _ e]
      have h5 := h2 p (by omega)
      exact ⟨h5.1, (h5.2.of_block (Below.heap_setCell _ _ _ _ (by show bk p ≠ ib; omega))).alloc _⟩
  · by_cases e : p = i
    · subst e; rw [updO_same, updO_ne _ _ (Ne.symm hne)]; have := hlt q (by omega); omega
    · by_cases e2 : q = i
      · subst e2; rw [updO_same, updO_ne _ _ e]; have := hlt p (by omega); omega
      · rw [updO_ne _ _ e, updO_ne _ _ e2]; exact h3 p q (by omega) (by omega) hne
/-- What stands at p, q. -/
theorem InT.see (h : InT w ib n G i) {p q : Nat} (hp : p < i) (hpn : p < n) (hq : q < n) : ∃ b, w.cell? ⟨ib, p, none⟩ = some (.slice (some ⟨b, 0, none⟩) n n) ∧ w.cell? ⟨b, q, none⟩ = some (.bool (G p q)) ∧ b < w.heap.size := by
  obtain ⟨b, h1, _, h2, _⟩ := h.at hp hpn
  exact ⟨b, h1, h2.cell hq, h2.lt⟩
end
end Go.Proofs.YtdhloijdefnkpaaGreatDoor
