/-
  Maps keyed by pairs of numbers: how the keys read.
  simul: of a state, by labels, where its steps lead: maps of rows.
  simul.newTable.
  simul: table.does: whether a state can take every step of another, as the rows say.
  simul, plain: relations, simulations; how pairs are dropped, round by round.
-/
import Derived.Test.YtclannenknhfpaaGreatDoorGKeyS
import Derived.Test.YtclannenknhfpaaGreatDoorGRwsB
import Derived.Test.YtclannenknhfpaaGreatDoorGBrC
import Derived.Test.YtclannenknhfpaaGreatDoorGGraphB
import Derived.Test.YtclannenknhfpaaGreatDoorGRefErr
import Derived.Deep.RegionHeld3
import Derived.Deep.RegionLaw
import Derived.Deep.DrawnRows
namespace Go.Proofs.YtclannenknhfpaaGreatDoor
open Go.RowKit Go.ChangeShapes Pl

def encP2 (x : Int × Int) : Value := .agg #[.int .i64 x.1, .int .i64 x.2]
def encPr (x : Int × Int) : List Value := [.int .i64 x.1, .int .i64 x.2]
theorem lenP2 (x : Int × Int) : (encPr x).length = 2 := rfl
def okPr (x : Int × Int) : Prop := (Lit.int .i64 x.1).wf = true ∧ (Lit.int .i64 x.2).wf = true

theorem rowPair : (28 : TypeId) < Tryz.prog.types.size := of_decide_eq_true (by kernel_rfl)
theorem widePair : (match Tryz.prog.underlying 28 with | some (.array _ _) | some (.struct _) => true | _ => false) = true := by rw [Tryz.underlying28]
set_option maxRecDepth 100000 in
theorem lawPair : Go.WideMaps.KeyLaw Tryz.prog 28 := deep_law_laid laidOutK (m := 2) (by omega) rowPair (by kernel_rfl) widePair
theorem deepPair : Tryz.prog.keyTypeAt (Tryz.prog.types.size + 1) 28 = true := by kernel_rfl
theorem cellsPair : Tryz.prog.cellsOf 28 = 2 := by kernel_rfl
theorem cellsInt1 : Tryz.prog.cellsOf 3 = 1 := by kernel_rfl
theorem formedPair (c0 c1 : Value) : (Value.agg #[c0, c1]).formed Tryz.prog 28 = true := by simp [Value.formed, Tryz.underlying28, cellsPair]

section
variable {H : Type} {enc : TypeId × Value → H} {P : Program} {w : World} {base : Nat} {spare : Nat → Bool} {held : Bool}
/-- An array of two one-cell elements, shut. -/
theorem shut_arr2 {t e : TypeId} {c0 c1 : Value} {y0 y1 : DataW H × List MemPlace} (ht : P.underlying t = some (.array 2 e)) (hce : P.cellsOf e = 1) (hct : P.cellsOf t = 2)
    (t0 : ∃ n, DataW.trod enc P w base spare held n e [c0] = some y0) (t1 : ∃ n, DataW.trod enc P w base spare held n e [c1] = some y1) :
    DataW.Trod enc P w base spare held t (.agg #[c0, c1]) (.agg [y0.1, y1.1]) (y0.2 ++ y1.2) := by
  obtain ⟨n0, t0⟩ := t0
  obtain ⟨n1, t1⟩ := t1
  have h0 := DataW.trod_le (Nat.le_max_left n0 n1) t0
  have h1 := DataW.trod_le (Nat.le_max_right n0 n1) t1
  refine ⟨max n0 n1 + 1, ?_⟩
  have r2 : List.range 2 = [0, 1] := rfl
  unfold DataW.trod
  rw [ht]
  simp [Value.cells, r2, hce, h0, h1, hct]
end

set_option maxRecDepth 100000 in
theorem keyPair (x : Int × Int) (h : okPr x) : ∃ l, keyOf Tryz.prog 28 (encP2 x) = some l := by
  have t0 := shut_int (H := Unit) (enc := fun _ => ()) (P := Tryz.prog) (w := default) (base := 0) (spare := fun _ => true) (held := true) Tryz.underlying3 h.1
  have t1 := shut_int (H := Unit) (enc := fun _ => ()) (P := Tryz.prog) (w := default) (base := 0) (spare := fun _ => true) (held := true) Tryz.underlying3 h.2
  have h2 := shut_arr2 (y0 := (.lit (.int .i64 x.1), [])) (y1 := (.lit (.int .i64 x.2), [])) Tryz.underlying28 cellsInt1 cellsPair t0 t1
  exact ⟨_, (keyOf_asKey deepPair widePair (formedPair _ _) h2).1⟩

theorem encPair : KeyEnc Tryz.prog 28 encP2 okPr where
  K := Go.Maps.Keyed.of_law lawPair
  key := keyPair
  inj x y h := by
    obtain ⟨x1, x2⟩ := x; obtain ⟨y1, y2⟩ := y
    unfold encP2 at h
    simp only [Value.agg.injEq, Array.mk.injEq, List.cons.injEq, Value.int.injEq, true_and, and_true] at h
    rw [h.1, h.2]

/-- More pairs are noted. -/
def addP (L : List (Int × Int)) (z : Int × Int) : Option Unit := if z ∈ L then some () else none
theorem addP_snoc (L : List (Int × Int)) (x z : Int × Int) : (if z = x then some () else addP L z) = addP (L ++ [x]) z := by
  unfold addP
  by_cases h : z = x
  · simp [h]
  · simp [h]
theorem addP_isSome (L : List (Int × Int)) (x : Int × Int) : (addP L x).isSome = decide (x ∈ L) := by
  unfold addP
  by_cases h : x ∈ L <;> simp [h]
end Go.Proofs.YtclannenknhfpaaGreatDoor

namespace Go.Proofs.YtclannenknhfpaaGreatDoor
open Go.RowKit Pl

def encK (x : Int) : Value := .int .i64 x
def okI (x : Int) : Prop := (Lit.int .i64 x).wf = true
theorem encInt : KeyEnc Tryz.prog 3 encK okI where
  K := Go.Maps.int_keyed Tryz.underlying3
  key x h := ⟨_, Go.Maps.keyOf_int_mk Tryz.underlying3 h⟩
  inj x y h := by unfold encK at h; simpa using h
def encP (b : Nat) : Value := .pointer (some ⟨b, 0, none⟩)
theorem frozen_of_block {w w' : World} {b : Nat} (h : w'.heap[b]? = w.heap[b]?) (off : Nat) : w'.frozen? ⟨b, off, none⟩ = w.frozen? ⟨b, off, none⟩ := by
  unfold World.frozen?; rw [h]

/-- The row of the label l: where the steps of L with that label lead. -/
def rowL (L : List S) (l : Int) (t : Nat) : Bool := decide ((l, (t : Int)) ∈ L)

theorem zeroRow (w : World) (T : TypeId) : RowAt (w.alloc (.cells #[.int .u64 0, .int .u64 0, .int .u64 0, .int .u64 0, .int .u64 0] T)) w.heap.size 0 (fun _ => false) := fun j hj => by
  rw [wj_none]
  have hj' : j = 0 ∨ j = 1 ∨ j = 2 ∨ j = 3 ∨ j = 4 := by omega
  rcases hj' with rfl | rfl | rfl | rfl | rfl <;> simp [go_sem]

end Go.Proofs.YtclannenknhfpaaGreatDoor

namespace Go.Proofs.YtclannenknhfpaaGreatDoor
open Go.RowKit Pl

section
variable {w0 wr wb w1 w' : World} {gb : Nat} {dv : Value} {ms : List Value} {s : Lts}
end

end Go.Proofs.YtclannenknhfpaaGreatDoor

namespace Go.Proofs.YtclannenknhfpaaGreatDoor
open Go.RowKit Pl

attribute [local go_sem ↓] Go.wp_at_zero Go.wp_at_succ

/-- Rows of bits, one of each state, in one block. -/
structure RelR (w : World) (ob n : Nat) (R : Nat → Nat → Bool) : Prop where
  row : ∀ p, p < n → RowAt w ob (p * 5) (R p)
theorem RelR.below {w w' : World} {ob n : Nat} {R : Nat → Nat → Bool} (h : RelR w ob n R) (hB : Below w.heap.size w w') : RelR w' ob n R := ⟨fun p hp => (h.row p hp).below hB⟩

def stepD (s : Lts) (R : Nat → Nat → Bool) (q : Nat) (x : S) : Bool := (s.outs (q : Int)).any (fun y => decide (y.1 = x.1) && R x.2.toNat y.2.toNat)
def doesB (s : Lts) (R : Nat → Nat → Bool) (p q : Nat) : Bool := (s.outs (p : Int)).all (stepD s R q)

theorem stepD_iff {s : Lts} (hr : s.Right) {n : Nat} (hn : s.st = (n : Int)) (hn3 : n ≤ 300) (R : Nat → Nat → Bool) (q : Nat) (l : Int) (t : Nat) : stepD s R q (l, (t : Int)) = true ↔ ∃ i, i < 320 ∧ rowL (s.outs (q : Int)) l i = true ∧ R t i = true := by
  unfold stepD rowL
  simp only [List.any_eq_true, Bool.and_eq_true, decide_eq_true_eq, Int.toNat_natCast]
  constructor
  · rintro ⟨y, hy, h1, h2⟩
    have hyr := offB_false.1 (hr.edges _ (mem_outs.1 hy))
    obtain ⟨y1, y2⟩ := y
    simp only at hyr h1 h2
    obtain ⟨i, rfl⟩ := Int.eq_ofNat_of_zero_le hyr.2.2.2.2.1
    subst h1
    exact ⟨i, by omega, hy, h2⟩
  · rintro ⟨i, _, h1, h2⟩
    exact ⟨(l, (i : Int)), h1, rfl, h2⟩

end Go.Proofs.YtclannenknhfpaaGreatDoor

namespace Go.Proofs.YtclannenknhfpaaGreatDoor
open Go.RowKit Pl

/-- A simulation among the first n states: whoever stands above does what the other does. -/
def IsSim (s : Lts) (n : Nat) (S : Nat → Nat → Bool) : Prop := ∀ p q, p < n → q < n → S p q = true → doesB s S p q = true

theorem doesB_mono {s : Lts} (hr : s.Right) {n : Nat} (hn : s.st = (n : Int)) {S R : Nat → Nat → Bool} (h : ∀ p q, p < n → q < n → S p q = true → R p q = true) {p q : Nat} (hd : doesB s S p q = true) : doesB s R p q = true := by
  unfold doesB stepD at *
  rw [List.all_eq_true] at *
  intro x hx
  have h1 := hd x hx
  rw [List.any_eq_true] at *
  obtain ⟨y, hy, h2⟩ := h1
  refine ⟨y, hy, ?_⟩
  rw [Bool.and_eq_true] at *
  have hx2 := offB_false.1 (hr.edges _ (mem_outs.1 hx))
  have hy2 := offB_false.1 (hr.edges _ (mem_outs.1 hy))
  simp only at hx2 hy2
  exact ⟨h2.1, h _ _ (by omega) (by omega) h2.2⟩

/-- What stays true of the pairs that are left. -/
structure Left (s : Lts) (n : Nat) (R : Nat → Nat → Bool) : Prop where
  rng : ∀ a i, a < n → R a i = true → i < n
  sim : ∀ S, IsSim s n S → ∀ a i, a < n → i < n → S a i = true → R a i = true
/-- The greatest simulation. -/
structure Great (s : Lts) (n : Nat) (R : Nat → Nat → Bool) : Prop where
  left : Left s n R
  does : ∀ a i, a < n → R a i = true → doesB s R a i = true

def dropR (R : Nat → Nat → Bool) (p i : Nat) : Nat → Nat → Bool := fun a => if a = p then dropF (R p) i else R a
def putR (R : Nat → Nat → Bool) (p i : Nat) : Nat → Nat → Bool := fun a => if a = p then putF (R p) i else R a
theorem dropR_true {R : Nat → Nat → Bool} {p i a j : Nat} : dropR R p i a j = true ↔ R a j = true ∧ ¬ (a = p ∧ j = i) := by
  unfold dropR dropF
  by_cases h : a = p
  · subst h; simp
  · simp [h]

/-! counting the pairs that are left -/
def sumN (n : Nat) (f : Nat → Nat) : Nat := ((List.range n).map f).sum
theorem sumN_succ (n : Nat) (f : Nat → Nat) : sumN (n + 1) f = sumN n f + f n := by unfold sumN; rw [List.range_succ]; simp
theorem sumN_congr {f g : Nat → Nat} : ∀ {n : Nat}, (∀ a, a < n → f a = g a) → sumN n f = sumN n g
  | 0, _ => rfl
  | n + 1, h => by rw [sumN_succ, sumN_succ, sumN_congr (fun a ha => h a (by omega)), h n (by omega)]
theorem sumN_upd {f g : Nat → Nat} {p : Nat} : ∀ {n : Nat}, p < n → (∀ a, a ≠ p → f a = g a) → f p + 1 = g p → sumN n f + 1 = sumN n g
  | 0, h, _, _ => by omega
  | n + 1, hp, h, hpp => by
    rw [sumN_succ, sumN_succ]
    by_cases e : p = n
    · subst e
      rw [sumN_congr (fun a ha => h a (by omega))]; omega
    · have := sumN_upd (n := n) (by omega) h hpp
      rw [h n (by omega)]; omega
theorem sumN_le {f : Nat → Nat} {m : Nat} : ∀ {n : Nat}, (∀ a, a < n → f a ≤ m) → sumN n f ≤ n * m
  | 0, _ => by simp [sumN]
  | n + 1, h => by
    rw [sumN_succ, Nat.succ_mul]
    have := sumN_le (n := n) (fun a ha => h a (by omega))
    have := h n (by omega)
    omega
def cntR (n : Nat) (R : Nat → Nat → Bool) : Nat := sumN n (fun a => sumN n (fun i => if R a i = true then 1 else 0))
theorem cntR_le (n : Nat) (R : Nat → Nat → Bool) : cntR n R ≤ n * n := sumN_le (fun a _ => by
  have := sumN_le (n := n) (f := fun i => if R a i = true then 1 else 0) (m := 1) (fun i _ => by by_cases h : R a i = true <;> simp [h])
  omega)
theorem cntR_drop {n : Nat} {R : Nat → Nat → Bool} {p i : Nat} (hp : p < n) (hi : i < n) (h : R p i = true) : cntR n (dropR R p i) + 1 = cntR n R := by
  unfold cntR
  refine sumN_upd hp (fun a ha => sumN_congr (fun j _ => ?_)) (sumN_upd hi (fun j hj => ?_) ?_)
  · unfold dropR; rw [if_neg ha]
  · unfold dropR dropF; rw [if_pos rfl]; simp [hj]
  · unfold dropR dropF; rw [if_pos rfl]; simp [h]

/-- Within a round: the rows before p are done, c pairs dropped. -/
structure R4 (s : Lts) (n : Nat) (R : Nat → Nat → Bool) (K c p : Nat) : Prop where
  left : Left s n R
  cnt : c + cntR n R = K
  zero : c = 0 → ∀ a, a < p → ∀ i, R a i = true → doesB s R a i = true
/-- .. of row p, whose states were L, the first m done. -/
structure R5 (s : Lts) (n : Nat) (R : Nat → Nat → Bool) (K c p : Nat) (L : List Nat) (m : Nat) : Prop where
  left : Left s n R
  cnt : c + cntR n R = K
  here : ∀ i, R p i = true → i ∈ L
  rest : ∀ j i, m ≤ j → L[j]? = some i → R p i = true
  nod : L.Nodup
  zero : c = 0 → (∀ a, a < p → ∀ i, R a i = true → doesB s R a i = true) ∧ ∀ j i, j < m → L[j]? = some i → doesB s R p i = true

theorem R4.open {s : Lts} {n : Nat} {R : Nat → Nat → Bool} {K c p : Nat} (h : R4 s n R K c p) (hp : p < n) (hn3 : n ≤ 300) : R5 s n R K c p (idsN (R p) 320) 0 :=
  ⟨h.left, h.cnt, fun i hi => by
    have := h.left.rng p i hp hi
    unfold idsN; rw [List.mem_filter, List.mem_range]; exact ⟨by omega, hi⟩,
   fun j i _ hj => by have := List.mem_of_getElem? hj; unfold idsN at this; exact (List.mem_filter.1 this).2,
   (List.nodup_range).sublist List.filter_sublist, fun e => ⟨h.zero e, fun j i hj => by omega⟩⟩
theorem R5.keep {s : Lts} {n : Nat} {R : Nat → Nat → Bool} {K c p : Nat} {L : List Nat} {m i : Nat} (h : R5 s n R K c p L m) (hi : L[m]? = some i) (hd : doesB s R p i = true) : R5 s n R K c p L (m + 1) :=
  ⟨h.left, h.cnt, h.here, fun j i hj => h.rest j i (by omega), h.nod, fun e => ⟨(h.zero e).1, fun j i' hj hi' => by
    by_cases e2 : j = m
    · subst e2; rw [hi] at hi'; cases hi'; exact hd
    · exact (h.zero e).2 j i' (by omega) hi'⟩⟩
theorem R5.drop {s : Lts} (hr : s.Right) {n : Nat} (hn : s.st = (n : Int)) {R : Nat → Nat → Bool} {K c p : Nat} {L : List Nat} {m i : Nat} (h : R5 s n R K c p L m) (hp : p < n) (hi : L[m]? = some i) (hd : doesB s R p i = false) : R5 s n (dropR R p i) K (c + 1) p L (m + 1) := by
  have hR := h.rest m i (Nat.le_refl _) hi
  have hin := h.left.rng p i hp hR
  refine ⟨⟨fun a j ha hj => h.left.rng a j ha (dropR_true.1 hj).1, fun S hS a j ha hj hSa => dropR_true.2 ⟨h.left.sim S hS a j ha hj hSa, ?_⟩⟩, ?_, fun j hj => h.here j (dropR_true.1 hj).1, fun j k hj hk => dropR_true.2 ⟨h.rest j k (by omega) hk, ?_⟩, h.nod, fun e => by omega⟩
  · rintro ⟨rfl, rfl⟩
    have := doesB_mono hr hn (h.left.sim S hS) (hS _ _ ha hj hSa)
    rw [hd] at this; cases this
  · have := cntR_drop hp hin hR
    have := h.cnt
    omega
  · rintro ⟨_, rfl⟩
    have h1 := (List.getElem?_eq_some_iff.1 hi).1
    have := (List.getElem?_inj h1 h.nod).1 (hi.trans hk.symm)
    omega
theorem R5.done {s : Lts} {n : Nat} {R : Nat → Nat → Bool} {K c p : Nat} {L : List Nat} (h : R5 s n R K c p L L.length) : R4 s n R K c (p + 1) :=
  ⟨h.left, h.cnt, fun e a ha i hi => by
    by_cases e2 : a = p
    · subst e2
      obtain ⟨j, hj⟩ := List.getElem?_of_mem (h.here i hi)
      exact (h.zero e).2 j i (List.getElem?_eq_some_iff.1 hj).1 hj
    · exact (h.zero e).1 a (by omega) i hi⟩

def fullR (n p q : Nat) : Nat → Nat → Bool := fun a i => decide (i < n ∧ (a < p ∨ (a = p ∧ i < q)))
theorem fullR_put {n p q : Nat} (hq : q < n) : putR (fullR n p q) p q = fullR n p (q + 1) := by
  funext a i
  unfold putR putF fullR
  rw [Bool.eq_iff_iff]
  by_cases h : a = p
  · subst h; simp; omega
  · simp [h]
theorem fullR_next (n p : Nat) : fullR n p n = fullR n (p + 1) 0 := by
  funext a i
  unfold fullR
  rw [Bool.eq_iff_iff]
  simp; omega
theorem left_full (s : Lts) (n : Nat) : Left s n (fullR n n 0) := ⟨fun a i _ h => by unfold fullR at h; simp at h; omega, fun S _ a i ha hi _ => by unfold fullR; simp; omega⟩

/-- The rows in memory after one word of them is set. -/
theorem RelR.set {w : World} {ob n : Nat} {R : Nat → Nat → Bool} (h : RelR w ob n R) {p i : Nat} (hp : p < n) (hi : i < 320) {F : Nat → Bool} (hF : ∀ j, j ≠ i / 64 → wj F j = wj (R p) j) :
    RelR (w.setCell ⟨ob, p * 5 + i / 64, none⟩ (.int .u64 (wj F (i / 64) : Nat))).drew ob n (fun a => if a = p then F else R a) := ⟨fun a ha j hj => by
  by_cases e : a = p
  · subst e
    rw [if_pos rfl]
    by_cases e2 : j = i / 64
    · subst e2; exact World.cell?_setCell_same _ _ _ (h.row a ha (i / 64) hj)
    · rw [hF j e2]
      exact (World.cell?_setCell_other _ _ _ _ (by intro h; simp at h <;> omega)).trans (h.row a ha j hj)
  · rw [if_neg e]
    exact (World.cell?_setCell_other _ _ _ _ (by intro h; simp at h <;> omega)).trans (h.row a ha j hj)⟩
end Go.Proofs.YtclannenknhfpaaGreatDoor
