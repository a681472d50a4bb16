/-
  Lemmas.
-/
import Derived.Test.YtffjcehopoaboaaGreatDoorGSameInts
import Derived.Test.YtffjcehopoaboaaGreatDoorGPl4
import Derived.Test.YtffjcehopoaboaaGreatDoorGWith
import Derived.Test.YtffjcehopoaboaaGreatDoorGLent
import Derived.Test.YtffjcehopoaboaaGreatDoorGFault
import Derived.Laws.BitsAllLaws
import Derived.IntWalk
import Derived.BigRegion
import Derived.Deep.QuietTactic
import Derived.BigQuiet
import Derived.Outline
import Derived.Deep.Cut
import Derived.Test.YtffjcehopoaboaaGreatDoorGRows2
import Derived.Shelf.Spec.TrailingZeros
import Derived.Test.YtffjcehopoaboaaGreatDoorPlS
import Derived.Lib.ItoaLen
import Derived.Test.YtffjcehopoaboaaGreatDoorGPlT
namespace Go.Proofs.YtffjcehopoaboaaGreatDoor
open Go.RowKit Pl
structure OG (w1 wr : World) (ob n : Nat) (f : Nat → List Int) : Prop where
  rows : OwnRows encI 1 3 50 wr w1.heap.size ob n f
  bel : Below ob w1 wr
  oth : ∀ b, b < w1.heap.size → b ≠ ob → wr.heap[b]? = w1.heap[b]?
theorem OG.sl {α : Type} {enc : α → List Value} {m : Nat} {w1 wr : World} {ob n : Nat} {f : Nat → List Int} {a : Option Addr} {b off : Nat} {xs : List α} (h : OG w1 wr ob n f) (hS : SlAt enc m w1 a b off xs) (hb : 0 < xs.length → b ≠ ob) : SlAt enc m wr a b off xs :=
  ⟨hS.ad, fun hp => Nat.lt_of_lt_of_le (hS.lt hp) h.bel.size, fun i x hx j u hu => by
    have hp : 0 < xs.length := by have := (List.getElem?_eq_some_iff.1 hx).1; omega
    rw [World.cell?_of_block (w := w1) (a := ⟨b, off + i * m + j, none⟩) (h.oth b (hS.lt hp) (hb hp))]
    exact hS.cell i x hx j u hu⟩
theorem OG.congr {w1 wr : World} {ob n : Nat} {f f' : Nat → List Int} (h : OG w1 wr ob n f) (e : ∀ i, f i = f' i) : OG w1 wr ob n f' := by
  have : f = f' := funext e
  rw [← this]; exact h
theorem OG.open {w1 wr : World} {ob n : Nat} {f : Nat → List Int} (h : OG w1 wr ob n f) {p : Nat} (hp : p < n) : ∃ v, wr.cell? ⟨ob, p, none⟩ = some v ∧ wr.frozen? ⟨ob, p, none⟩ = false ∧ wr.ownsRow w1.heap.size 3 1 v (f p).length ((f p).flatMap encI) ∧
    ∀ (w2 w3 : World) (g cap : Nat) (ys : List Int), Below wr.heap.size wr w2 → w3.ownsRow w1.heap.size 3 1 (.slice (some ⟨g, 0, none⟩) ys.length cap) ys.length (ys.flatMap encI) → w2.grownBy w3 v.ownBlock → (v.ownBlock = some g ∨ wr.heap.size ≤ g) →
      w3.cell? ⟨ob, p, none⟩ = some v ∧ w3.frozen? ⟨ob, p, none⟩ = false ∧
      OG w1 (w3.setCell ⟨ob, p, none⟩ (.slice (some ⟨g, 0, none⟩) ys.length cap)) ob n (fun i => if i = p then ys else f i) := by
  obtain ⟨v, h1, h2, h3, h4⟩ := h.rows.open hp
  refine ⟨v, h1, h2, h3, fun w2 w3 g cap ys hB hown hg hgg => ?_⟩
  have hs := h.bel.size
  have hob := h.rows.lt
  obtain ⟨h5, h6, h7⟩ := h4 w2 w3 g cap ys hB (Nat.le_trans hs hB.size) hown hg hgg
  have hv : ∀ b, b < w1.heap.size → some b ≠ v.ownBlock := fun b hb e => by have := (h3.lt b e.symm).1; omega
  refine ⟨h5, h6, h7, ((h.bel.trans (hB.mono (by omega))).grown hg (by have := hB.size; omega) (fun k hk => by have := (h3.lt k hk).1; omega)).setCell (Nat.le_refl _) _, fun b hb hne => ?_⟩
  rw [Below.heap_setCell _ _ _ _ hne, hg.block b (by have := hB.size; omega) (hv b hb), hB.block b (by omega)]
  exact h.oth b hb hne
def memK (C : List Int) (k : Nat) (c : Int) : List Int := ((List.range k).filter (fun x => decide (C[x]? = some c))).map Int.ofNat
end Go.Proofs.YtffjcehopoaboaaGreatDoor
namespace Go.Proofs.YtffjcehopoaboaaGreatDoor
open Go.RowKit Pl
section
variable {t : Lts}
def W8 (t : Lts) (D : List Nat) (j : Nat) : Int := if j ∈ D then -1 else (Wt t D j : Int)
def W9 (t : Lts) (D : List Nat) (k : Nat) (L : List Int) (j : Nat) : Int := (if j = k then -1 else W8 t D j) - (L.count (j : Int) : Int)
end
structure OQ (W wr : World) (M : Nat) (f : Nat → Int) : Prop where
  rows : wr.rowIs W.heap.size 3 M (fun j => .int .i64 (f j))
  bel : Below W.heap.size W wr
theorem OQ.call {W wr w' : World} {M : Nat} {f : Nat → Int} (h : OQ W wr M f) (hB : Below wr.heap.size wr w') : OQ W w' M f :=
  ⟨h.rows.of_block (hB.block _ h.rows.lt), h.bel.trans (hB.mono h.bel.size)⟩
theorem OQ.set {W wr : World} {M : Nat} {f : Nat → Int} (h : OQ W wr M f) (i : Nat) (x : Int) : OQ W (wr.setCell ⟨W.heap.size, i, none⟩ (.int .i64 x)) M (fun j => if j = i then x else f j) :=
  ⟨(h.rows.set i (.int .i64 x)).congr (fun j _ => by by_cases e : j = i <;> simp [e]), h.bel.setCell (Nat.le_refl _) _⟩
theorem OQ.congr {W wr : World} {M : Nat} {f g : Nat → Int} (h : OQ W wr M f) (e : ∀ j, j < M → f j = g j) : OQ W wr M g :=
  ⟨h.rows.congr (fun j hj => by rw [e j hj]), h.bel⟩
theorem OQ.grown {W wr w' : World} {M : Nat} {f : Nat → Int} {v : Value} {e : TypeId} {k n : Nat} {xs : List Value} (h : OQ W wr M f) (ho : wr.ownsRow (W.heap.size + 1) e k v n xs) (hg : wr.grownBy w' v.ownBlock) : OQ W w' M f :=
  ⟨h.rows.of_block (hg.block _ h.rows.lt (fun e => by have := (ho.lt _ e.symm).1; omega)), h.bel.grown hg h.bel.size (fun k hk => by have := (ho.lt k hk).1; omega)⟩
def clsM (C : List Int) (n : Nat) (k : Nat) : List Nat := (List.range n).filter (fun x => decide (C[x]? = some (k : Int)))
theorem memK_N (C : List Int) (n k : Nat) : memK C n (k : Int) = (clsM C n k).map Int.ofNat := rfl
theorem mem_clsM {C : List Int} {n k x : Nat} : x ∈ clsM C n k ↔ x < n ∧ C[x]? = some (k : Int) := by simp [clsM]
theorem flat_N (C : List Int) (n : Nat) (D : List Nat) : (D.flatMap fun k : Nat => memK C n (k : Int)) = (D.flatMap (clsM C n)).map Int.ofNat := by
  induction D with
  | nil => rfl
  | cons k D ih => rw [List.flatMap_cons, List.flatMap_cons, List.map_append, ih, memK_N]
theorem flatN_nodup (C : List Int) (n : Nat) {D : List Nat} (h : D.Nodup) : (D.flatMap (clsM C n)).Nodup := by
  unfold List.Nodup
  rw [List.pairwise_flatMap]
  refine ⟨fun k _ => List.Nodup.sublist List.filter_sublist List.nodup_range, List.Pairwise.imp ?_ h⟩
  intro a b hab x hx y hy e
  subst e
  have h1 := (mem_clsM.1 hx).2; have h2 := (mem_clsM.1 hy).2
  rw [h1] at h2
  simp only [Option.some.injEq] at h2
  exact hab (by omega)
theorem flat_le (C : List Int) (n : Nat) {D : List Nat} (h : D.Nodup) : (D.flatMap fun k : Nat => memK C n (k : Int)).length ≤ n := by
  rw [flat_N, List.length_map]
  have := nodup_sub _ (List.range n) (flatN_nodup C n h) (fun x hx => by
    obtain ⟨k, _, hk⟩ := List.mem_flatMap.1 hx
    exact List.mem_range.2 (mem_clsM.1 hk).1)
  rwa [List.length_range] at this
theorem flat_all {C : List Int} {n M : Nat} (hC : ∀ x, x < n → ∃ k : Nat, k < M ∧ C[x]? = some (k : Int)) {D : List Nat} (hD : ∀ k, k < M → k ∈ D) : n ≤ (D.flatMap fun k : Nat => memK C n (k : Int)).length := by
  rw [flat_N, List.length_map]
  have := nodup_sub (List.range n) (D.flatMap (clsM C n)) List.nodup_range (fun x hx => by
    have hx := List.mem_range.1 hx
    obtain ⟨k, hk, hc⟩ := hC x hx
    exact List.mem_flatMap.2 ⟨k, hD k hk, mem_clsM.2 ⟨hx, hc⟩⟩)
  rwa [List.length_range] at this
theorem cls_in {n : Nat} {f : Nat → Int} {x : Nat} (hx : x < n) : ∃ k : Nat, k < (dist (fl n f)).length ∧ (fl n (clf n f))[x]? = some (k : Int) := by
  have h := clf_rng (f := f) hx
  obtain ⟨k, hk⟩ := Int.eq_ofNat_of_zero_le h.1
  exact ⟨k, by omega, by rw [fl_get _ hx, hk]⟩
end Go.Proofs.YtffjcehopoaboaaGreatDoor
namespace Go.Proofs.YtffjcehopoaboaaGreatDoor
open Go.RowKit Pl
def OrdPost (s : Lts) (n : Nat) (w : World) (e : Ending) (w' : World) : Prop :=
  ∃ (f : Nat → Int) (D : List Nat) (v : Value), Cyc s n f ∧ OrdL (col s (fl n (clf n f))) (dist (fl n (clf n f))).length D ∧ (∀ k, k < (dist (fl n (clf n f))).length → k ∈ D) ∧ e = .returned (.tuple #[v, .nilIface]) ∧
    w'.ownsRow w.heap.size 3 1 v n ((D.flatMap fun k : Nat => memK (fl n (clf n f)) n (k : Int)).flatMap encI) ∧ Below w.heap.size w w'
end Go.Proofs.YtffjcehopoaboaaGreatDoor
namespace Go.Proofs.YtffjcehopoaboaaGreatDoor
open Go.RowKit Pl
def RowAt (w : World) (b off : Nat) (F : Nat → Bool) : Prop := ∀ j, j < 5 → w.cell? ⟨b, off + j, none⟩ = some (.int .u64 (wj F j : Nat))
end Go.Proofs.YtffjcehopoaboaaGreatDoor
namespace Go.Proofs.YtffjcehopoaboaaGreatDoor
open Go.RowKit Pl
theorem RowAt.below {w w' : World} {b off : Nat} {F : Nat → Bool} (h : RowAt w b off F) (hB : Below w.heap.size w w') : RowAt w' b off F := fun j hj => by
  have hc := h j hj
  rw [hB.cell (p := ⟨b, off + j, none⟩) (World.block_lt_of_cell? _ _ hc)]; exact hc
theorem RowAt.lt {w : World} {b off : Nat} {F : Nat → Bool} (h : RowAt w b off F) : b < w.heap.size := World.block_lt_of_cell? _ _ (h 0 (by decide))
theorem RowAt.of_block {w w' : World} {b off : Nat} {F : Nat → Bool} (h : RowAt w b off F) (hb : w'.heap[b]? = w.heap[b]?) : RowAt w' b off F := fun j hj =>
  (World.cell?_of_block (a := ⟨b, off + j, none⟩) hb).trans (h j hj)
def Tab (w : World) : Prop := Go.Proofs.TabAt 13 Lib.deBruijn64tab w
theorem Tab.below {w w' : World} (h : Tab w) (hB : Below w.heap.size w w') : Tab w' := fun j hj => by
  have hc := h j hj
  rw [hB.cell (p := ⟨13, j, none⟩) (World.block_lt_of_cell? _ _ hc)]; exact hc
def MeetsPost (w : World) (F G : Nat → Bool) (e : Ending) (w' : World) : Prop := ∃ m : Bool, e = .returned (.bool m) ∧ (m = true ↔ ∃ i, i < 320 ∧ F i = true ∧ G i = true) ∧ ∃ u, w' = w.drewN u
def intsOf (L : List Nat) : List Int := L.map Int.ofNat
def IdsPost (w : World) (F : Nat → Bool) (e : Ending) (w' : World) : Prop := ∃ v, e = .returned v ∧ w'.ownsRow w.heap.size 3 1 v (intsOf (idsN F 320)).length ((intsOf (idsN F 320)).flatMap encI) ∧ Below w.heap.size w w'
end Go.Proofs.YtffjcehopoaboaaGreatDoor
namespace Go.Proofs.YtffjcehopoaboaaGreatDoor
namespace Pl
inductive Via (s : Lts) (X : Nat → Prop) (p : Nat) : Nat → Prop
  | refl : X p → Via s X p p
  | tail {q r : Nat} : Via s X p q → stp s q 0 r → X r → Via s X p r
theorem Via.last {s : Lts} {X : Nat → Prop} {p q : Nat} (h : Via s X p q) : X q := by
  cases h with
  | refl h => exact h
  | tail _ _ h => exact h
theorem Via.mono {s : Lts} {X Y : Nat → Prop} {p q : Nat} (h : Via s X p q) (hxy : ∀ x, X x → Y x) : Via s Y p q := by
  induction h with
  | refl h => exact .refl (hxy _ h)
  | tail _ h1 h2 ih => exact .tail ih h1 (hxy _ h2)
theorem Via.head {s : Lts} {X : Nat → Prop} {p q r : Nat} (hp : X p) (hs : stp s p 0 q) (h : Via s X q r) : Via s X p r := by
  induction h with
  | refl h => exact .tail (.refl hp) hs h
  | tail _ h1 h2 ih => exact .tail ih h1 h2
inductive Sg (s : Lts) (C : Nat → Int) : Nat → Int → Int → Prop
  | here {p t : Nat} {l : Int} : stp s p l t → ¬ (l = 0 ∧ C t = C p) → Sg s C p l (C t)
  | on {p t : Nat} {l e : Int} : stp s p 0 t → C t = C p → Sg s C t l e → Sg s C p l e
structure IsBr (s : Lts) (n : Nat) (R : Nat → Nat → Prop) : Prop where
  fwd : ∀ p q, p < n → q < n → R p q → ∀ l p', p' < n → stp s p l p' → (l = 0 ∧ R p' q) ∨ ∃ q0 q', Via s (fun x => x < n ∧ R p x) q q0 ∧ q' < n ∧ stp s q0 l q' ∧ R p' q'
  bwd : ∀ p q, p < n → q < n → R p q → ∀ l q', q' < n → stp s q l q' → (l = 0 ∧ R p q') ∨ ∃ p0 p', Via s (fun x => x < n ∧ R x q) p p0 ∧ p' < n ∧ stp s p0 l p' ∧ R p' q'
theorem IsBr.symm {s : Lts} {n : Nat} {R : Nat → Nat → Prop} (h : IsBr s n R) : IsBr s n (fun a b => R b a) :=
  ⟨fun p q hp hq hr l p' hp' hs => h.bwd q p hq hp hr l p' hp' hs, fun p q hp hq hr l q' hq' hs => h.fwd q p hq hp hr l q' hq' hs⟩
theorem Sg.via {s : Lts} {C : Nat → Int} {c : Int} {p q : Nat} (h : Via s (fun x => C x = c) p q) {l e : Int} (hs : Sg s C q l e) : Sg s C p l e := by
  induction h with
  | refl h => exact hs
  | tail h1 h2 h3 ih => exact ih (.on h2 (by rw [h3, h1.last]) hs)
theorem Sg.way {s : Lts} {C : Nat → Int} {p : Nat} {l e : Int} (h : Sg s C p l e) : ∃ q t, Via s (fun x => C x = C p) p q ∧ stp s q l t ∧ C t = e ∧ ¬ (l = 0 ∧ C t = C p) := by
  induction h with
  | here h1 h2 => exact ⟨_, _, .refl rfl, h1, rfl, h2⟩
  | @on p t l e h1 h2 _ ih =>
    obtain ⟨q, t', h3, h4, h5, h6⟩ := ih
    exact ⟨q, t', Via.head rfl h1 (h3.mono (fun x hx => by rw [hx, h2])), h4, h5, by rw [h2] at h6; exact h6⟩
theorem stp_lt {s : Lts} (hr : s.Right) {n : Nat} (hn : s.st = (n : Int)) {p t : Nat} {l : Int} (h : stp s p l t) : p < n ∧ t < n ∧ 0 ≤ l ∧ l < s.lb := by
  have := offB_false.1 (hr.edges _ h)
  simp only at this
  omega
theorem Via.lt {s : Lts} (hr : s.Right) {n : Nat} (hn : s.st = (n : Int)) {X : Nat → Prop} {p q : Nat} (hp : p < n) (h : Via s X p q) : Via s (fun x => x < n ∧ X x) p q ∧ q < n := by
  induction h with
  | refl h => exact ⟨.refl ⟨hp, h⟩, hp⟩
  | tail _ h1 h2 ih =>
    have := (stp_lt hr hn h1).2.1
    exact ⟨.tail ih.1 h1 ⟨this, h2⟩, this⟩
theorem IsBr.sg {s : Lts} {n : Nat} {R : Nat → Nat → Prop} (hr : s.Right) (hn : s.st = (n : Int)) (h : IsBr s n R) {C : Nat → Int} (hC : ∀ p q, p < n → q < n → R p q → C p = C q) {p : Nat} {l e : Int} (hs : Sg s C p l e) : ∀ q, q < n → R p q → Sg s C q l e := by
  have key : ∀ {p q0 : Nat}, p < n → ∀ {q}, Via s (fun x => x < n ∧ R p x) q q0 → Via s (fun x => C x = C p) q q0 := by
    intro p q0 hp q hv
    exact hv.mono (fun x hx => (hC _ _ hp hx.1 hx.2).symm)
  induction hs with
  | @here p t l h1 h2 =>
    intro q hq hpq
    have hp := (stp_lt hr hn h1).1; have ht := (stp_lt hr hn h1).2.1
    have e0 := hC p q hp hq hpq
    rcases h.fwd p q hp hq hpq l t ht h1 with ⟨rfl, h3⟩ | ⟨q0, q', h3, h4, h5, h6⟩
    · exact absurd ⟨rfl, by rw [hC t q ht hq h3, e0]⟩ h2
    · have e1 := hC t q' ht h4 h6
      have e2 := (key hp h3).last
      rw [e1]
      exact Sg.via (key hp h3) (.here h5 (by rw [e2, ← e1]; exact h2))
  | @on p t l e h1 h2 _ ih =>
    intro q hq hpq
    have hp := (stp_lt hr hn h1).1; have ht := (stp_lt hr hn h1).2.1
    rcases h.fwd p q hp hq hpq 0 t ht h1 with ⟨_, h3⟩ | ⟨q0, q', h3, h4, h5, h6⟩
    · exact ih q hq h3
    · have e1 := hC t q' ht h4 h6
      have e2 := (key hp h3).last
      exact Sg.via (key hp h3) (.on h5 (by rw [e2, ← e1]; exact h2) (ih q' h4 h6))
def Still (s : Lts) (n : Nat) (C : Nat → Int) : Prop := ∀ p q, p < n → q < n → C p = C q → ∀ l e, Sg s C p l e → Sg s C q l e
structure BrBig (s : Lts) (n : Nat) (C : Nat → Int) : Prop where
  still : Still s n C
  all : ∀ R, IsBr s n R → ∀ p q, p < n → q < n → R p q → C p = C q
theorem Still.br {s : Lts} {n : Nat} {C : Nat → Int} (hr : s.Right) (hn : s.st = (n : Int)) (h : Still s n C) : IsBr s n (fun p q => C p = C q) := by
  have fw : ∀ p q, p < n → q < n → C p = C q → ∀ l p', p' < n → stp s p l p' → (l = 0 ∧ C p' = C q) ∨ ∃ q0 q', Via s (fun x => x < n ∧ C p = C x) q q0 ∧ q' < n ∧ stp s q0 l q' ∧ C p' = C q' := by
    intro p q hp hq e l p' hp' hs
    by_cases hi : l = 0 ∧ C p' = C p
    · exact .inl ⟨hi.1, hi.2.trans e⟩
    · obtain ⟨q0, t, h1, h2, h3, _⟩ := (h p q hp hq e l (C p') (.here hs hi)).way
      have h4 := (h1.lt hr hn hq).1
      exact .inr ⟨q0, t, h4.mono (fun x hx => ⟨hx.1, by rw [hx.2]; exact e⟩), (stp_lt hr hn h2).2.1, h2, h3.symm⟩
  refine ⟨fw, fun p q hp hq e l q' hq' hs => ?_⟩
  rcases fw q p hq hp e.symm l q' hq' hs with ⟨h1, h2⟩ | ⟨q0, t, h1, h2, h3, h4⟩
  · exact .inl ⟨h1, h2.symm⟩
  · exact .inr ⟨q0, t, h1.mono (fun x hx => ⟨hx.1, hx.2.symm⟩), h2, h3, h4.symm⟩
theorem BrBig.same {s : Lts} {n : Nat} {C D : Nat → Int} (hr : s.Right) (hn : s.st = (n : Int)) (h : BrBig s n C) (h' : BrBig s n D) {p q : Nat} (hp : p < n) (hq : q < n) : C p = C q ↔ D p = D q :=
  ⟨fun e => h'.all _ (h.still.br hr hn) p q hp hq e, fun e => h.all _ (h'.still.br hr hn) p q hp hq e⟩
/-! rounds -/
def Holds (s : Lts) (n : Nat) (C : Nat → Int) : Prop := ∀ R, IsBr s n R → ∀ p q, p < n → q < n → R p q → C p = C q
def NextB (s : Lts) (n : Nat) (C D : Nat → Int) : Prop := ∀ p q, p < n → q < n → (D p = D q ↔ C p = C q ∧ ∀ l e, Sg s C p l e ↔ Sg s C q l e)
theorem Holds.next {s : Lts} {n : Nat} {C D : Nat → Int} (hr : s.Right) (hn : s.st = (n : Int)) (h : Holds s n C) (hd : NextB s n C D) : Holds s n D := fun R hR p q hp hq e =>
  (hd p q hp hq).2 ⟨h R hR p q hp hq e, fun _ _ => ⟨fun hs => hR.sg hr hn (h R hR) hs q hq e, fun hs => hR.symm.sg hr hn (fun a b ha hb hab => (h R hR b a hb ha hab).symm) hs p hp e⟩⟩
theorem Holds.done {s : Lts} {n : Nat} {C D : Nat → Int} (h : Holds s n C) (hd : NextB s n C D) (he : ∀ p, p < n → D p = C p) : BrBig s n C :=
  ⟨fun p q hp hq e _ _ hs => ((((hd p q hp hq).1 (by rw [he p hp, he q hq]; exact e)).2 _ _).1 hs), h⟩
end Pl
end Go.Proofs.YtffjcehopoaboaaGreatDoor
namespace Go.Proofs.YtffjcehopoaboaaGreatDoor
namespace Pl
open Go.Lib
/-! decimal numerals -/
def stepT (x : S) : List UInt8 := 32 :: (itoa x.1 ++ 32 :: itoa x.2)
def textB (c : Int) (L : List S) : List UInt8 := itoa c ++ L.flatMap stepT
/-! more classes -/
end Pl
end Go.Proofs.YtffjcehopoaboaaGreatDoor
namespace Go.Proofs.YtffjcehopoaboaaGreatDoor
namespace Pl
def asF (n : Nat) (f : Nat → Int) (p : Nat) : Nat := (clf n f p).toNat
theorem asF_eq {n : Nat} {f : Nat → Int} {p : Nat} (hp : p < n) : clf n f p = (asF n f p : Int) := by
  have := (clf_rng (f := f) hp).1
  unfold asF; omega
section
variable {s : Lts} {n : Nat} {f : Nat → Int}
theorem asF_same (hc : Cyc s n f) {x y : Nat} (hx : x < n) (hy : y < n) : asF n f x = asF n f y ↔ TR s x y ∧ TR s y x := by
  rw [← hc.same x y hx hy, ← clf_eq (f := f) hx hy, asF_eq hx, asF_eq hy]
  omega
theorem stp_col (hr : s.Right) (hn : s.st = (n : Int)) {X Y : Nat} {l : Int} : stp (col s (fl n (clf n f))) X l Y ↔ ∃ x y, x < n ∧ y < n ∧ stp s x l y ∧ asF n f x = X ∧ asF n f y = Y ∧ ¬ (l = 0 ∧ X = Y) := by
  unfold stp col
  simp only
  rw [mem_nf stoE, mem_colE]
  constructor
  · rintro ⟨⟨x, l', y⟩, h1, h2, h3⟩
    have h4 := offB_false.1 (hr.edges _ h1)
    simp only at h4 h2 h3
    obtain ⟨x, rfl⟩ := Int.eq_ofNat_of_zero_le h4.1
    obtain ⟨y, rfl⟩ := Int.eq_ofNat_of_zero_le h4.2.2.2.2.1
    have hx : x < n := by omega
    have hy : y < n := by omega
    simp only [Prod.mk.injEq] at h2
    obtain ⟨e1, rfl, e3⟩ := h2
    rw [atL_fl (by omega) (by omega)] at e1 e3
    simp only [Int.toNat_natCast] at e1 e3
    rw [asF_eq hx] at e1
    rw [asF_eq hy] at e3
    exact ⟨x, y, hx, hy, h1, by omega, by omega, fun h => h3 ⟨h.1, by omega⟩⟩
  · rintro ⟨x, y, hx, hy, h1, rfl, rfl, h3⟩
    refine ⟨((x : Int), l, (y : Int)), h1, ?_, fun h => h3 ⟨h.1, by simp only at h; omega⟩⟩
    simp only
    rw [atL_fl (by omega) (by omega), atL_fl (by omega) (by omega)]
    simp only [Int.toNat_natCast]
    rw [asF_eq hx, asF_eq hy]
end
inductive Rounds (s : Lts) (n : Nat) : (Nat → Int) → Prop
  | zero : Rounds s n (fun _ => 0)
  | step {C D : Nat → Int} : Rounds s n C → NextB s n C D → Rounds s n D
theorem Sg.congr {s : Lts} {n : Nat} (hr : s.Right) (hn : s.st = (n : Int)) {C D : Nat → Int} (h : ∀ p q, p < n → q < n → (C p = C q ↔ D p = D q)) {p : Nat} (hp : p < n) {l e : Int} (hs : Sg s C p l e) : ∃ t, t < n ∧ C t = e ∧ Sg s D p l (D t) := by
  induction hs with
  | @here p t l h1 h2 =>
    have h3 := stp_lt hr hn h1
    exact ⟨t, h3.2.1, rfl, .here h1 (fun k => h2 ⟨k.1, (h _ _ h3.2.1 h3.1).2 k.2⟩)⟩
  | @on p t l e h1 h2 _ ih =>
    have h3 := stp_lt hr hn h1
    obtain ⟨u, hu, e1, h4⟩ := ih h3.2.1
    exact ⟨u, hu, e1, .on h1 ((h _ _ h3.2.1 h3.1).1 h2) h4⟩
theorem BrBig.congr {s : Lts} {n : Nat} (hr : s.Right) (hn : s.st = (n : Int)) {C D : Nat → Int} (hb : BrBig s n C) (h : ∀ p q, p < n → q < n → (C p = C q ↔ D p = D q)) : BrBig s n D := by
  refine ⟨fun p q hp hq e l x hx => ?_, fun R hR p q hp hq e => (h p q hp hq).1 (hb.all R hR p q hp hq e)⟩
  obtain ⟨t, ht, e1, h1⟩ := hx.congr hr hn (fun a b ha hb => (h a b ha hb).symm) hp
  have h2 := hb.still p q hp hq ((h p q hp hq).2 e) _ _ h1
  obtain ⟨u, hu, e2, h3⟩ := h2.congr hr hn h hq
  rw [← e1, (h t u ht hu).1 e2.symm]
  exact h3
theorem BrBig.clf {s : Lts} {n : Nat} (hr : s.Right) (hn : s.st = (n : Int)) {C : Nat → Int} (hb : BrBig s n C) : BrBig s n (clf n C) := hb.congr hr hn (fun _ _ hp hq => (clf_eq (f := C) hp hq).symm)
theorem BrBig.uniq {s : Lts} {n : Nat} (hr : s.Right) (hn : s.st = (n : Int)) {C D : Nat → Int} (h : BrBig s n C) (h' : BrBig s n D) : fl n (Pl.clf n C) = fl n (Pl.clf n D) := by
  rw [← canon_fl, ← canon_fl, sameT_canon (by rw [fl_len, fl_len])]
  intro i k x y x' y' hki hx hy hx' hy'
  have hi : i < n := by have := (List.getElem?_eq_some_iff.1 hx).1; rwa [fl_len] at this
  have hk : k < n := by omega
  rw [fl_get C hi] at hx; rw [fl_get C hk] at hy; rw [fl_get D hi] at hx'; rw [fl_get D hk] at hy'
  cases hx; cases hy; cases hx'; cases hy'
  exact h.same hr hn h' hi hk
/-! signatures as lists -/
structure SigOk (s : Lts) (C : Nat → Int) (p : Nat) (L : List S) : Prop where
  srt : Srt ltS L
  mem : ∀ l e, (l, e) ∈ L ↔ Sg s C p l e
def shareB (C : Nat → Int) (F : Nat → List S) (p : Nat) (x : S) : List S := if x.1 = 0 ∧ C x.2.toNat = C p then F x.2.toNat else [(x.1, C x.2.toNat)]
end Pl
end Go.Proofs.YtffjcehopoaboaaGreatDoor
namespace Go.Proofs.YtffjcehopoaboaaGreatDoor
namespace Pl
def aheadS (s : Lts) (p : Int) : Lts := ⟨s.st + 1, s.lb, s.s0, s.es ++ [(s.st, 0, p)]⟩
end Pl
end Go.Proofs.YtffjcehopoaboaaGreatDoor
