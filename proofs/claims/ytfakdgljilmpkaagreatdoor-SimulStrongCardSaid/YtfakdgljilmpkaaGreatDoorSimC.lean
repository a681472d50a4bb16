/-
  simul: of a state, by labels, where its steps lead: maps of rows.
-/
import Derived.Test.YtfakdgljilmpkaaGreatDoorG15
import Derived.Test.YtfakdgljilmpkaaGreatDoorOMap
import Derived.Test.YtfakdgljilmpkaaGreatDoorG18
namespace Go.Proofs.YtfakdgljilmpkaaGreatDoor
open Go.RowKit Pl

def encK (x : Int) : Value := .int .i64 x
def okI (x : Int) : Prop := (Lit.int .i64 x).wf = true
theorem encInt : KeyEnc Tryz.prog 3 encK okI where
  K := Go.Maps.int_keyed Tryz.underlying3
  key x h := ⟨_, Go.Maps.keyOf_int_mk Tryz.underlying3 h⟩
  inj x y h := by unfold encK at h; simpa using h
def encP (b : Nat) : Value := .pointer (some ⟨b, 0, none⟩)
theorem zeroPtr (w : World) : (zeroValue 183).run Tryz.prog w = .ok (.pointer none) w := by kernel_rfl

/-- The block of a row of bits that a call boxed. -/
def RowBlk (w : World) (b : Nat) : Prop := ∃ c, w.heap[b]? = some (.cells c 130 (0, 0))
theorem RowBlk.thawed {w : World} {b : Nat} (h : RowBlk w b) (off : Nat) : w.frozen? ⟨b, off, none⟩ = false := by
  obtain ⟨c, h⟩ := h; simp [World.frozen?, h]
theorem RowBlk.of_block {w w' : World} {b : Nat} (h : RowBlk w b) (e : w'.heap[b]? = w.heap[b]?) : RowBlk w' b := by
  obtain ⟨c, h⟩ := h; exact ⟨c, e.trans h⟩
theorem RowBlk.set {w : World} {b : Nat} (h : RowBlk w b) (off : Nat) (v : Value) : RowBlk (w.setCell ⟨b, off, none⟩ v).drew b := by
  obtain ⟨c, h⟩ := h; exact ⟨_, heap_setCell_same w b off c 130 v h⟩
theorem frozen_of_block {w w' : World} {b : Nat} (h : w'.heap[b]? = w.heap[b]?) (off : Nat) : w'.frozen? ⟨b, off, none⟩ = w.frozen? ⟨b, off, none⟩ := by
  unfold World.frozen?; rw [h]

/-- The row of the label l: where the steps of L with that label lead. -/
def rowL (L : List S) (l : Int) (t : Nat) : Bool := decide ((l, (t : Int)) ∈ L)

structure LabMap (w : World) (base mb : Nat) (L : List S) : Prop where
  ex : ∃ (f : Int → Option Nat) (n : Nat), OMap w mb encK okI encP f n ∧ (∀ l b, f l = some b → base ≤ b ∧ b ≠ mb ∧ RowAt w b 0 (rowL L l) ∧ RowBlk w b) ∧
    (∀ l, f l = none → ∀ t, (l, t) ∉ L) ∧ (∀ l l' b, f l = some b → f l' = some b → l = l')
theorem LabMap.lt {w : World} {base mb : Nat} {L : List S} (h : LabMap w base mb L) : mb < w.heap.size := by
  obtain ⟨f, n, hm, _⟩ := h.ex; exact hm.lt
theorem LabMap.made (w : World) (base : Nat) : LabMap (w.alloc (.map #[] 0)) base w.heap.size [] :=
  ⟨fun _ => none, 0, OMap.made w, fun l b h => (by cases h), fun _ _ _ h => (by cases h), fun l l' b h => (by cases h)⟩
/-- Blocks that the map reads stay. -/
theorem LabMap.kept {w w' : World} {base mb : Nat} {L : List S} (h : LabMap w base mb L) (hb : w'.heap[mb]? = w.heap[mb]?) (hr : ∀ b, base ≤ b → b < w.heap.size → RowBlk w b → w'.heap[b]? = w.heap[b]?) : LabMap w' base mb L := by
  obtain ⟨f, n, hm, h1, h2, h3⟩ := h.ex
  refine ⟨f, n, hm.of_block hb, fun l b hl => ?_, h2, h3⟩
  obtain ⟨a1, a2, a3, a4⟩ := h1 l b hl
  have e := hr b a1 a3.lt a4
  exact ⟨a1, a2, a3.of_block e, a4.of_block e⟩
theorem LabMap.call {w w' : World} {base mb : Nat} {L : List S} (h : LabMap w base mb L) (hB : Below w.heap.size w w') : LabMap w' base mb L :=
  h.kept (hB.block _ h.lt) (fun b _ hb _ => hB.block b hb)

theorem zeroRow (w : World) (T : TypeId) : RowAt (w.alloc (.cells #[.int .u64 0, .int .u64 0, .int .u64 0, .int .u64 0, .int .u64 0] T)) w.heap.size 0 (fun _ => false) := fun j hj => by
  rw [wj_none]
  have hj' : j = 0 ∨ j = 1 ∨ j = 2 ∨ j = 3 ∨ j = 4 := by omega
  rcases hj' with rfl | rfl | rfl | rfl | rfl <;> simp [go_sem]

/-- A new row for a label that has none: its block laid (wa), the map told (w1). -/
theorem LabMap.fresh {w w1 : World} {base mb H : Nat} (hH : w.heap.size = H) {L : List S} (h : LabMap w base mb L) {l : Int} (hno : ∀ t, (l, t) ∉ L) (hbase : base ≤ H) {f : Int → Option Nat} {n n' : Nat} (_hf0 : OMap w mb encK okI encP f n) (_hfl : f l = none)
    (h1 : ∀ l b, f l = some b → base ≤ b ∧ b ≠ mb ∧ RowAt w b 0 (rowL L l) ∧ RowBlk w b) (h2 : ∀ l, f l = none → ∀ t, (l, t) ∉ L) (h3 : ∀ l l' b, f l = some b → f l' = some b → l = l')
    (hm : OMap w1 mb encK okI encP (fun z => if z = l then some H else f z) n') (hg : (w.alloc (.cells #[.int .u64 0, .int .u64 0, .int .u64 0, .int .u64 0, .int .u64 0] 130)).grownBy w1 (some mb)) :
    RowAt w1 H 0 (rowL L l) ∧ RowBlk w1 H ∧ (∀ l' b, (fun z => if z = l then some H else f z) l' = some b → base ≤ b ∧ b ≠ mb ∧ RowAt w1 b 0 (rowL L l') ∧ RowBlk w1 b) ∧
      (∀ l', (fun z => if z = l then some H else f z) l' = none → ∀ t, (l', t) ∉ L) ∧ (∀ l1 l2 b, (fun z => if z = l then some H else f z) l1 = some b → (fun z => if z = l then some H else f z) l2 = some b → l1 = l2) := by
  subst hH
  have hmw := h.lt
  have hblk : ∀ b, b < w.heap.size + 1 → b ≠ mb → w1.heap[b]? = (w.alloc (.cells #[.int .u64 0, .int .u64 0, .int .u64 0, .int .u64 0, .int .u64 0] 130)).heap[b]? := fun b hb hne => hg.block b (by simp; omega) (fun e => hne (Option.some.inj e))
  have hnew := hblk w.heap.size (by omega) (by omega)
  have hold : ∀ b, b < w.heap.size → b ≠ mb → w1.heap[b]? = w.heap[b]? := fun b hb hne => (hblk b (by omega) hne).trans (Below.heap_alloc w _ b hb)
  have hrow : RowAt w1 w.heap.size 0 (rowL L l) := by
    have e : rowL L l = fun _ => false := funext fun t => by unfold rowL; simp [hno]
    rw [e]; exact (zeroRow w _).of_block hnew
  have hfr : RowBlk w1 w.heap.size := ⟨_, hnew.trans (heap_alloc_new w _)⟩
  refine ⟨hrow, hfr, fun l' b hl' => ?_, fun l' hl' => ?_, fun l1 l2 b e1 e2 => ?_⟩
  · by_cases e : l' = l
    · subst e
      simp at hl'
      subst hl'
      exact ⟨hbase, by omega, hrow, hfr⟩
    · simp only [if_neg e] at hl'
      obtain ⟨a1, a2, a3, a4⟩ := h1 l' b hl'
      have eb := hold b a3.lt a2
      exact ⟨a1, a2, a3.of_block eb, a4.of_block eb⟩
  · by_cases e : l' = l
    · subst e; exact hno
    · simp only [if_neg e] at hl'
      exact h2 l' hl'
  · have key : ∀ l' b, f l' = some b → b < w.heap.size := fun l' b h => (h1 l' b h).2.2.1.lt
    by_cases c1 : l1 = l <;> by_cases c2 : l2 = l
    · rw [c1, c2]
    · simp only [if_pos c1, if_neg c2, Option.some.injEq] at e1 e2
      have := key l2 b e2; omega
    · simp only [if_neg c1, if_pos c2, Option.some.injEq] at e1 e2
      have := key l1 b e1; omega
    · simp only [if_neg c1, if_neg c2] at e1 e2
      exact h3 l1 l2 b e1 e2

/-- A step noted in its label's row. -/
theorem LabMap.noted {w : World} {base mb : Nat} {L : List S} {l : Int} {t : Nat} {f : Int → Option Nat} {n : Nat} {b : Nat} (hm : OMap w mb encK okI encP f n) (hfl : f l = some b)
    (h1 : ∀ l b, f l = some b → base ≤ b ∧ b ≠ mb ∧ RowAt w b 0 (rowL L l) ∧ RowBlk w b) (h2 : ∀ l, f l = none → ∀ t, (l, t) ∉ L) (h3 : ∀ l l' b, f l = some b → f l' = some b → l = l') :
    LabMap (w.setCell ⟨b, 0 + t / 64, none⟩ (.int .u64 (wj (putF (rowL L l) t) (t / 64) : Nat))).drew base mb (L ++ [(l, (t : Int))]) := by
  obtain ⟨a1, a2, a3, a4⟩ := h1 l b hfl
  have hset : ∀ b', b' ≠ b → (w.setCell ⟨b, 0 + t / 64, none⟩ (.int .u64 (wj (putF (rowL L l) t) (t / 64) : Nat))).drew.heap[b']? = w.heap[b']? := fun b' hne => Below.heap_setCell _ _ _ _ hne
  refine ⟨f, n, hm.of_block (hset mb (Ne.symm a2)), fun l' b' hl' => ?_, fun l' hl' t' => ?_, h3⟩
  · by_cases e : l' = l
    · subst e
      rw [hfl] at hl'
      simp only [Option.some.injEq] at hl'
      subst hl'
      refine ⟨a1, a2, fun j hj => ?_, a4.set _ _⟩
      · have hF : wj (rowL (L ++ [(l', (t : Int))]) l') j = wj (putF (rowL L l') t) j := wj_ext (fun k _ => by
          unfold putF rowL
          rw [Bool.eq_iff_iff]
          simp only [decide_eq_true_eq, Bool.or_eq_true, List.mem_append, List.mem_singleton, Prod.mk.injEq, true_and]
          constructor
          · rintro (h | h)
            · exact .inl h
            · exact .inr (by omega)
          · rintro (h | h)
            · exact .inl h
            · exact .inr (by omega))
        rw [hF]
        by_cases ej : j = t / 64
        · subst ej
          exact World.cell?_setCell_same _ _ _ (a3 (t / 64) hj)
        · rw [wj_put_ne _ ej]
          exact (World.cell?_setCell_other _ _ _ _ (by intro h; simp at h <;> omega)).trans (a3 j hj)
    · obtain ⟨c1, c2, c3, c4⟩ := h1 l' b' hl'
      have hne : b' ≠ b := fun e2 => e (h3 l' l b (by rw [← e2]; exact hl') hfl)
      have hF : ∀ j, wj (rowL (L ++ [(l, (t : Int))]) l') j = wj (rowL L l') j := fun j => wj_ext (fun k _ => by
        unfold rowL
        simp [e])
      refine ⟨c1, c2, fun j hj => ?_, c4.of_block (hset b' hne)⟩
      rw [hF]; exact (c3.of_block (hset b' hne)) j hj
  · intro hmem
    rcases List.mem_append.1 hmem with h | h
    · exact h2 l' hl' t' h
    · simp at h
      rw [h.1, hfl] at hl'; cases hl'
end Go.Proofs.YtfakdgljilmpkaaGreatDoor
