/-
  system.Together: how many classes there are.
  tauscc.Collapse: the system whose states are the cycles.
  tauscc.Order: all states, what silent steps lead to ahead.
  tauscc.Order: how the counts of what is waited for go down.
  Rows that a call owns, each in a block of its own, side by side (structs are rows of one element): what reading, storing and appending do to them.
-/
import Derived.Test.YtclannenknhfpaaGreatDoorGTauF
import Derived.Test.YtclannenknhfpaaGreatDoorGRefErr
import Derived.Test.YtclannenknhfpaaGreatDoorGPl6
import Derived.Deep.DeepMust
import Derived.Test.YtclannenknhfpaaGreatDoorGCompact2
import Derived.Test.YtclannenknhfpaaGreatDoorGGraphB
import Derived.Test.YtclannenknhfpaaGreatDoorGKit
import Derived.Deep.AppendLies
import Derived.Deep.RegionLaw
namespace Go.Proofs.YtclannenknhfpaaGreatDoor
open Go.RowKit Pl Go.Maps


/-- The set that Together keeps. -/
structure SetD (D : DataW Unit) (s : List Int) : Prop where
  has : ∀ x : Int, Maps.has D (.int .i64 x) = decide (x ∈ s)
  len : Maps.size D = s.length
theorem SetD.nil : SetD (.map []) [] := ⟨fun x => by simp [Maps.has], rfl⟩
theorem SetD.add {D : DataW Unit} {s : List Int} {x : Int} (h : SetD D s) (ht : Tidy D) : SetD (D.put (.int .i64 x) (.agg [])) (addN s x) where
  has y := by
    have hm : (y ∈ addN s x) ↔ y ∈ s ∨ y = x := mem_addN
    by_cases e : y = x
    · subst e; rw [has_put_same (k := .int .i64 y) ht.isMap trivial]; simp [hm]
    · rw [has_put_other (by intro h; cases h; exact e rfl), h.has]; simp [hm, e]
  len := by
    rw [size_put ht, h.has]
    unfold addN
    by_cases hx : x ∈ s
    · simp [hx, h.len]
    · simp [hx, h.len]

end Go.Proofs.YtclannenknhfpaaGreatDoor

namespace Go.Proofs.YtclannenknhfpaaGreatDoor
open Go.RowKit Pl

theorem Fault2.setR {w : World} {p : Addr} {v : Value} {R : Nat} {c : Array Value} (h : Fault2 w p v) (hr : w.heap[R]? = some (.cells c 24 (0, 0))) (x0 x1 x2 x3 : Value) :
    Fault2 ((((w.setCell ⟨R, 0, none⟩ x0).setCell ⟨R, 1, none⟩ x1).setCell ⟨R, 2, none⟩ x2).setCell ⟨R, 3, none⟩ x3) p v := by
  obtain ⟨vi, ⟨b, hv, hb⟩, ⟨b2, hv2, hb2⟩⟩ := h
  have n1 : b ≠ R := fun e => by subst e; rw [hr] at hb; simp at hb
  have n2 : b2 ≠ R := fun e => by subst e; rw [hr] at hb2; simp at hb2
  exact ⟨vi, ⟨b, hv, by rw [Below.heap_setCell _ _ _ _ n1, Below.heap_setCell _ _ _ _ n1, Below.heap_setCell _ _ _ _ n1, Below.heap_setCell _ _ _ _ n1]; exact hb⟩,
    ⟨b2, hv2, by rw [Below.heap_setCell _ _ _ _ n2, Below.heap_setCell _ _ _ _ n2, Below.heap_setCell _ _ _ _ n2, Below.heap_setCell _ _ _ _ n2]; exact hb2⟩⟩

theorem sysC {w : World} {B : Nat} {x y z : Int} {v : Value} (h : w.heap[B]? = some (.cells #[.int .i64 x, .int .i64 y, .int .i64 z, v] 24 (0, 0))) :
    w.cell? ⟨B, 0, none⟩ = some (.int .i64 x) ∧ w.cell? ⟨B, 1, none⟩ = some (.int .i64 y) ∧ w.cell? ⟨B, 2, none⟩ = some (.int .i64 z) ∧ w.cell? ⟨B, 3, none⟩ = some v ∧ B < w.heap.size := by
  refine ⟨?_, ?_, ?_, ?_, (Array.getElem?_eq_some_iff.1 h).1⟩ <;> simp [World.cell?, h]

/-- What Collapse answers. -/
def ColPost (s : Lts) (n : Nat) (w : World) (e : Ending) (w' : World) : Prop :=
  ∃ (f : Nat → Int) (v ve : Value), Cyc s n f ∧ e = .returned (.tuple #[.agg #[.int .i64 (col s (fl n (clf n f))).st, .int .i64 (col s (fl n (clf n f))).lb, .int .i64 (col s (fl n (clf n f))).s0, ve], v, .nilIface]) ∧
    w'.ownsRow w.heap.size 3 1 v n ((fl n (clf n f)).flatMap encI) ∧ w'.ownsRow w.heap.size 58 3 ve (col s (fl n (clf n f))).es.length ((col s (fl n (clf n f))).es.flatMap encE) ∧ Below w.heap.size w w'

theorem bAlloc {w0 w : World} (h : Below w0.heap.size w0 w) (o : Obj) : Below w0.heap.size w0 (w.alloc o) := h.alloc h.size o
/-- Another object in the last block's stead. -/
theorem bFold {w0 w : World} {o o' : Obj} (h : Below w0.heap.size w0 (w.alloc o)) (hs : w0.heap.size ≤ w.heap.size) : Below w0.heap.size w0 (w.alloc o') :=
  ⟨h.os, h.tape, h.output, by simp; omega, fun k hk => by
    have := h.block k hk
    rw [Below.heap_alloc _ _ _ (by omega)] at this ⊢
    exact this⟩
theorem bSet4 {w0 w : World} {x0 x1 x2 x3 : Value} (h : Below w0.heap.size w0 w) : Below w0.heap.size w0 ((((w.setCell ⟨w0.heap.size, 0, none⟩ x0).setCell ⟨w0.heap.size, 1, none⟩ x1).setCell ⟨w0.heap.size, 2, none⟩ x2).setCell ⟨w0.heap.size, 3, none⟩ x3) :=
  (((h.setCell (Nat.le_refl _) _).setCell (Nat.le_refl _) _).setCell (Nat.le_refl _) _).setCell (Nat.le_refl _) _
theorem sysZ {w : World} {B : Nat} {x y z : Int} {v : Value} (h : w.heap[B]? = some (.cells #[.int .i64 x, .int .i64 y, .int .i64 z, v] 24 (0, 0))) :
    (w.cell? ⟨B, 0, none⟩ = some (.int .i64 x) ∧ w.cell? ⟨B, 1, none⟩ = some (.int .i64 y) ∧ w.cell? ⟨B, 2, none⟩ = some (.int .i64 z) ∧ w.cell? ⟨B, 3, none⟩ = some v ∧ B < w.heap.size) ∧ w.frozen? ⟨B, 0, none⟩ = false ∧ w.frozen? ⟨B, 1, none⟩ = false ∧ w.frozen? ⟨B, 2, none⟩ = false ∧ w.frozen? ⟨B, 3, none⟩ = false := by
  refine ⟨sysC h, ?_, ?_, ?_, ?_⟩ <;> simp [World.frozen?, h]
theorem zAt {w1 w' : World} (hB : Below (w1.drew.alloc (.cells #[.int .i64 0, .int .i64 0, .int .i64 0, .slice none 0 0] 24)).heap.size (w1.drew.alloc (.cells #[.int .i64 0, .int .i64 0, .int .i64 0, .slice none 0 0] 24)) w') :
    (w'.cell? ⟨w1.heap.size, 0, none⟩ = some (.int .i64 0) ∧ w'.cell? ⟨w1.heap.size, 1, none⟩ = some (.int .i64 0) ∧ w'.cell? ⟨w1.heap.size, 2, none⟩ = some (.int .i64 0) ∧ w'.cell? ⟨w1.heap.size, 3, none⟩ = some (.slice none 0 0) ∧ w1.heap.size < w'.heap.size) ∧
    w'.frozen? ⟨w1.heap.size, 0, none⟩ = false ∧ w'.frozen? ⟨w1.heap.size, 1, none⟩ = false ∧ w'.frozen? ⟨w1.heap.size, 2, none⟩ = false ∧ w'.frozen? ⟨w1.heap.size, 3, none⟩ = false :=
  sysZ ((hB.block w1.heap.size (by show w1.drew.heap.size < _; simp)).trans (heap_alloc_new w1.drew _))
theorem colE_take {c : List Int} {es : List E} {k : Nat} {x : E} (hx : es[k]? = some x) : colE c (es.take (k + 1)) = if x.2.1 = 0 ∧ atL c x.1 = atL c x.2.2 then colE c (es.take k) else colE c (es.take k) ++ [(atL c x.1, x.2.1, atL c x.2.2)] := by
  rw [take_snoc hx]
  unfold colE
  rw [List.map_append, List.filter_append]
  by_cases h : x.2.1 = 0 ∧ atL c x.1 = atL c x.2.2
  · rw [if_pos h]; simp [h.1, h.2]
  · rw [if_neg h]
    congr 1
    by_cases h1 : x.2.1 = 0
    · have h2 : ¬ atL c x.1 = atL c x.2.2 := fun e => h ⟨h1, e⟩
      simp [h2]
    · simp [h1]

end Go.Proofs.YtclannenknhfpaaGreatDoor

namespace Go.Proofs.YtclannenknhfpaaGreatDoor
open Go.RowKit Pl

/-- A row of lists that grow one by one; nothing else that stood is touched. -/
structure OG (w1 wr : World) (ob n : Nat) (f : Nat → List Int) : Prop where
  rows : OwnRows encI 1 3 43 wr w1.heap.size ob n f
  bel : Below ob w1 wr
  oth : ∀ b, b < w1.heap.size → b ≠ ob → wr.heap[b]? = w1.heap[b]?
theorem OG.sl {α : Type} {enc : α → List Value} {m : Nat} {w1 wr : World} {ob n : Nat} {f : Nat → List Int} {a : Option Addr} {b off : Nat} {xs : List α} (h : OG w1 wr ob n f) (hS : SlAt enc m w1 a b off xs) (hb : 0 < xs.length → b ≠ ob) : SlAt enc m wr a b off xs :=
  ⟨hS.ad, fun hp => Nat.lt_of_lt_of_le (hS.lt hp) h.bel.size, fun i x hx j u hu => by
    have hp : 0 < xs.length := by have := (List.getElem?_eq_some_iff.1 hx).1; omega
    rw [World.cell?_of_block (w := w1) (a := ⟨b, off + i * m + j, none⟩) (h.oth b (hS.lt hp) (hb hp))]
    exact hS.cell i x hx j u hu⟩
theorem OG.congr {w1 wr : World} {ob n : Nat} {f f' : Nat → List Int} (h : OG w1 wr ob n f) (e : ∀ i, f i = f' i) : OG w1 wr ob n f' := by
  have : f = f' := funext e
  rw [← this]; exact h
theorem OG.open {w1 wr : World} {ob n : Nat} {f : Nat → List Int} (h : OG w1 wr ob n f) {p : Nat} (hp : p < n) : ∃ v, wr.cell? ⟨ob, p, none⟩ = some v ∧ wr.frozen? ⟨ob, p, none⟩ = false ∧ wr.ownsRow w1.heap.size 3 1 v (f p).length ((f p).flatMap encI) ∧
    ∀ (w2 w3 : World) (g cap : Nat) (ys : List Int), Below wr.heap.size wr w2 → w3.ownsRow w1.heap.size 3 1 (.slice (some ⟨g, 0, none⟩) ys.length cap) ys.length (ys.flatMap encI) → w2.grownBy w3 v.ownBlock → (v.ownBlock = some g ∨ wr.heap.size ≤ g) →
      w3.cell? ⟨ob, p, none⟩ = some v ∧ w3.frozen? ⟨ob, p, none⟩ = false ∧
      OG w1 (w3.setCell ⟨ob, p, none⟩ (.slice (some ⟨g, 0, none⟩) ys.length cap)) ob n (fun i => if i = p then ys else f i) := by
  obtain ⟨v, h1, h2, h3, h4⟩ := h.rows.open hp
  refine ⟨v, h1, h2, h3, fun w2 w3 g cap ys hB hown hg hgg => ?_⟩
  have hs := h.bel.size
  have hob := h.rows.lt
  obtain ⟨h5, h6, h7⟩ := h4 w2 w3 g cap ys hB (Nat.le_trans hs hB.size) hown hg hgg
  have hv : ∀ b, b < w1.heap.size → some b ≠ v.ownBlock := fun b hb e => by have := (h3.lt b e.symm).1; omega
  refine ⟨h5, h6, h7, ((h.bel.trans (hB.mono (by omega))).grown hg (by have := hB.size; omega) (fun k hk => by have := (h3.lt k hk).1; omega)).setCell (Nat.le_refl _) _, fun b hb hne => ?_⟩
  rw [Below.heap_setCell _ _ _ _ hne, hg.block b (by have := hB.size; omega) (hv b hb), hB.block b (by omega)]
  exact h.oth b hb hne

/-- The states of a class, of the first k. -/
def memK (C : List Int) (k : Nat) (c : Int) : List Int := ((List.range k).filter (fun x => decide (C[x]? = some c))).map Int.ofNat
theorem memK_snoc {C : List Int} {k : Nat} {x : Int} (hx : C[k]? = some x) (c : Int) : memK C (k + 1) c = if x = c then memK C k c ++ [(k : Int)] else memK C k c := by
  unfold memK
  rw [List.range_succ, List.filter_append, List.map_append]
  by_cases h : x = c
  · subst h; rw [if_pos rfl]; simp [hx]
  · rw [if_neg h]; simp [hx, h]
theorem memK_len (C : List Int) (k : Nat) (c : Int) : (memK C k c).length ≤ k := by
  unfold memK
  rw [List.length_map]
  have := List.length_filter_le (fun x => decide (C[x]? = some c)) (List.range k)
  rwa [List.length_range] at this
end Go.Proofs.YtclannenknhfpaaGreatDoor

namespace Go.Proofs.YtclannenknhfpaaGreatDoor
open Go.RowKit Pl

theorem srtS_filter : ∀ (l : List S), Srt ltS l → (∀ y ∈ l, 0 ≤ y.1) → l.takeWhile (fun y => y.1 == 0) = l.filter (fun y => y.1 == 0)
  | [], _, _ => rfl
  | x :: l, h, h0 => by
    have hh := List.pairwise_cons.1 h
    by_cases e : x.1 = 0
    · have e2 : (x.1 == 0) = true := by simp [e]
      rw [List.takeWhile_cons, List.filter_cons, e2]
      simp only [if_true]
      rw [srtS_filter l hh.2 (fun y hy => h0 y (List.mem_cons_of_mem _ hy))]
    · have e2 : (x.1 == 0) = false := by simp [e]
      rw [List.takeWhile_cons, List.filter_cons, e2]
      simp only [Bool.false_eq_true, if_false]
      symm
      rw [List.filter_eq_nil_iff]
      intro y hy
      have h1 := hh.1 y hy
      rw [ltS_iff] at h1
      have h2 := h0 x List.mem_cons_self
      simp; omega
section
variable {t : Lts}
theorem outs_len_taus (hr : t.Right) (hs : Srt ltE t.es) (k : Nat) : (withL 0 (t.outs (k : Int))).length = Wt t [] k := by
  rw [Wt_nil]
  unfold withL taus
  rw [srtS_filter _ (outs_srt hs _) (fun z hz => (offB_false.1 (hr.edges _ (mem_outs.1 hz))).2.2.1)]
  simp
theorem mem_from {k : Nat} {x : Int} : x ∈ withL 0 (t.ins (k : Int)) ↔ (x, 0, (k : Int)) ∈ t.es := by
  unfold withL Lts.ins
  simp only [List.mem_map, List.mem_filter, beq_iff_eq]
  constructor
  · rintro ⟨y, ⟨⟨z, ⟨h1, h2⟩, rfl⟩, h3⟩, rfl⟩
    obtain ⟨z1, z2, z3⟩ := z
    simp only at h2 h3 ⊢
    subst h2 h3
    exact (mem_nf stoB _ t.es).1 h1
  · intro h
    exact ⟨(0, x), ⟨⟨(x, 0, (k : Int)), ⟨(mem_nf stoB _ t.es).2 h, rfl⟩, rfl⟩, rfl⟩, rfl⟩
theorem from_tau {k j : Nat} : (j : Int) ∈ withL 0 (t.ins (k : Int)) ↔ tau t j k := mem_from
theorem from_nodup (k : Nat) : (withL 0 (t.ins (k : Int))).Nodup := by
  unfold withL List.Nodup
  rw [List.pairwise_map]
  refine List.Pairwise.imp_of_mem ?_ (List.Pairwise.filter (fun y : S => y.1 == 0) (ins_srt (s := t) (k : Int)))
  intro a b ha hb hab e
  have h1 := (List.mem_filter.1 ha).2; have h2 := (List.mem_filter.1 hb).2
  simp only [beq_iff_eq] at h1 h2
  rw [ltS_iff] at hab
  omega
theorem from_rng (hr : t.Right) {m : Nat} (hm : t.st = (m : Int)) {k : Nat} {x : Int} (h : x ∈ withL 0 (t.ins (k : Int))) : ∃ j : Nat, x = (j : Int) ∧ j < m := by
  have h1 := offB_false.1 (hr.edges _ (mem_from.1 h))
  simp only at h1
  exact ⟨x.toNat, by omega, by omega⟩

/-- What waits holds. -/
def W8 (t : Lts) (D : List Nat) (j : Nat) : Int := if j ∈ D then -1 else (Wt t D j : Int)
/-- .. behind k's turn, m of those that lead to it told. -/
def W9 (t : Lts) (D : List Nat) (k : Nat) (L : List Int) (j : Nat) : Int := (if j = k then -1 else W8 t D j) - (L.count (j : Int) : Int)
theorem W9_nil (D : List Nat) (k : Nat) (j : Nat) : W9 t D k [] j = if j = k then -1 else W8 t D j := by simp [W9]
theorem W9_snoc (D : List Nat) (k : Nat) (L : List Int) (x j : Nat) : W9 t D k (L ++ [(x : Int)]) j = if j = x then W9 t D k L x - 1 else W9 t D k L j := by
  unfold W9
  rw [List.count_append]
  by_cases h : j = x
  · subst h; rw [if_pos rfl]; simp; omega
  · rw [if_neg h]
    have : ¬ ((x : Int) = (j : Int)) := by omega
    simp [this]
theorem W9_end (hr : t.Right) (hs : Srt ltE t.es) {m : Nat} {D : List Nat} {k : Nat} (hD : OrdL t m D) (hk : IsNext t m D k) (j : Nat) : W9 t D k (withL 0 (t.ins (k : Int))) j = W8 t (D ++ [k]) j := by
  have hc : ((withL 0 (t.ins (k : Int))).count (j : Int)) = if (j : Int) ∈ withL 0 (t.ins (k : Int)) then 1 else 0 := List.Nodup.count (from_nodup k)
  have hz := (Wt_zero hr hs).1 hk.all
  unfold W9
  rw [hc]
  by_cases hj : j = k
  · subst hj
    rw [if_pos rfl]
    have h1 : ¬ (j : Int) ∈ withL 0 (t.ins (j : Int)) := fun h => hk.new (hz j (from_tau.1 h))
    rw [if_neg h1]
    unfold W8; rw [if_pos (by simp)]; rfl
  · rw [if_neg hj]
    unfold W8
    by_cases hjD : j ∈ D
    · have h1 : ¬ (j : Int) ∈ withL 0 (t.ins (k : Int)) := fun h => hk.new (hD.closed hr hs hjD (from_tau.1 h))
      rw [if_neg h1, if_pos hjD, if_pos (show j ∈ D ++ [k] by simp [hjD])]; rfl
    · rw [if_neg hjD, if_neg (show ¬ j ∈ D ++ [k] by simp [hjD, hj])]
      haveI : Decidable (tau t j k) := Classical.propDecidable _
      have h2 := Wt_add hr hs hk.new j
      by_cases h3 : tau t j k
      · rw [if_pos (from_tau.2 h3)]; rw [if_pos h3] at h2; rw [h2]; omega
      · rw [if_neg (fun h => h3 (from_tau.1 h))]; rw [if_neg h3] at h2; rw [h2]; omega
theorem W8_zero (D : List Nat) (j : Nat) : W8 t D j = 0 ↔ j ∉ D ∧ Wt t D j = 0 := by
  unfold W8
  by_cases h : j ∈ D
  · rw [if_pos h]; simp [h]
  · rw [if_neg h]; simp [h]
theorem Wt_le (hr : t.Right) (D : List Nat) (j : Nat) : Wt t D j ≤ 10000 := by
  unfold Wt taus
  have h1 := outs_len hr (j : Int)
  have h2 := List.length_filter_le (fun y => !decide (y ∈ D)) (((t.outs (j : Int)).takeWhile (fun y => y.1 == 0)).map (fun y => y.2.toNat))
  rw [List.length_map] at h2
  have h3 := (List.takeWhile_sublist (fun y : S => y.1 == 0) (l := t.outs (j : Int))).length_le
  omega
theorem W8_rng (hr : t.Right) (D : List Nat) (j : Nat) : -1 ≤ W8 t D j ∧ W8 t D j ≤ 10000 := by
  have := Wt_le hr D j
  unfold W8; split <;> omega
theorem W9_rng (hr : t.Right) (D : List Nat) (k : Nat) (L : List Int) (hL : L.length ≤ 10000) (j : Nat) : -10001 ≤ W9 t D k L j ∧ W9 t D k L j ≤ 10000 := by
  have h1 := W8_rng hr D j
  have h2 := List.count_le_length (a := (j : Int)) (l := L)
  unfold W9; split <;> omega
end

/-- The row waits within the loops. -/
structure OQ (W wr : World) (M : Nat) (f : Nat → Int) : Prop where
  rows : wr.rowIs W.heap.size 3 M (fun j => .int .i64 (f j))
  bel : Below W.heap.size W wr
theorem OQ.call {W wr w' : World} {M : Nat} {f : Nat → Int} (h : OQ W wr M f) (hB : Below wr.heap.size wr w') : OQ W w' M f :=
  ⟨h.rows.of_block (hB.block _ h.rows.lt), h.bel.trans (hB.mono h.bel.size)⟩
theorem OQ.set {W wr : World} {M : Nat} {f : Nat → Int} (h : OQ W wr M f) (i : Nat) (x : Int) : OQ W (wr.setCell ⟨W.heap.size, i, none⟩ (.int .i64 x)) M (fun j => if j = i then x else f j) :=
  ⟨(h.rows.set i (.int .i64 x)).congr (fun j _ => by by_cases e : j = i <;> simp [e]), h.bel.setCell (Nat.le_refl _) _⟩
theorem OQ.congr {W wr : World} {M : Nat} {f g : Nat → Int} (h : OQ W wr M f) (e : ∀ j, j < M → f j = g j) : OQ W wr M g :=
  ⟨h.rows.congr (fun j hj => by rw [e j hj]), h.bel⟩
theorem OQ.grown {W wr w' : World} {M : Nat} {f : Nat → Int} {v : Value} {e : TypeId} {k n : Nat} {xs : List Value} (h : OQ W wr M f) (ho : wr.ownsRow (W.heap.size + 1) e k v n xs) (hg : wr.grownBy w' v.ownBlock) : OQ W w' M f :=
  ⟨h.rows.of_block (hg.block _ h.rows.lt (fun e => by have := (ho.lt _ e.symm).1; omega)), h.bel.grown hg h.bel.size (fun k hk => by have := (ho.lt k hk).1; omega)⟩

/-- The states of a class, plain. -/
def clsM (C : List Int) (n : Nat) (k : Nat) : List Nat := (List.range n).filter (fun x => decide (C[x]? = some (k : Int)))
theorem memK_N (C : List Int) (n k : Nat) : memK C n (k : Int) = (clsM C n k).map Int.ofNat := rfl
theorem mem_clsM {C : List Int} {n k x : Nat} : x ∈ clsM C n k ↔ x < n ∧ C[x]? = some (k : Int) := by simp [clsM]
theorem flat_N (C : List Int) (n : Nat) (D : List Nat) : (D.flatMap fun k : Nat => memK C n (k : Int)) = (D.flatMap (clsM C n)).map Int.ofNat := by
  induction D with
  | nil => rfl
  | cons k D ih => rw [List.flatMap_cons, List.flatMap_cons, List.map_append, ih, memK_N]
theorem flatN_nodup (C : List Int) (n : Nat) {D : List Nat} (h : D.Nodup) : (D.flatMap (clsM C n)).Nodup := by
  unfold List.Nodup
  rw [List.pairwise_flatMap]
  refine ⟨fun k _ => List.Nodup.sublist List.filter_sublist List.nodup_range, List.Pairwise.imp ?_ h⟩
  intro a b hab x hx y hy e
  subst e
  have h1 := (mem_clsM.1 hx).2; have h2 := (mem_clsM.1 hy).2
  rw [h1] at h2
  simp only [Option.some.injEq] at h2
  exact hab (by omega)
theorem flat_le (C : List Int) (n : Nat) {D : List Nat} (h : D.Nodup) : (D.flatMap fun k : Nat => memK C n (k : Int)).length ≤ n := by
  rw [flat_N, List.length_map]
  have := nodup_sub _ (List.range n) (flatN_nodup C n h) (fun x hx => by
    obtain ⟨k, _, hk⟩ := List.mem_flatMap.1 hx
    exact List.mem_range.2 (mem_clsM.1 hk).1)
  rwa [List.length_range] at this
theorem flat_all {C : List Int} {n M : Nat} (hC : ∀ x, x < n → ∃ k : Nat, k < M ∧ C[x]? = some (k : Int)) {D : List Nat} (hD : ∀ k, k < M → k ∈ D) : n ≤ (D.flatMap fun k : Nat => memK C n (k : Int)).length := by
  rw [flat_N, List.length_map]
  have := nodup_sub (List.range n) (D.flatMap (clsM C n)) List.nodup_range (fun x hx => by
    have hx := List.mem_range.1 hx
    obtain ⟨k, hk, hc⟩ := hC x hx
    exact List.mem_flatMap.2 ⟨k, hD k hk, mem_clsM.2 ⟨hx, hc⟩⟩)
  rwa [List.length_range] at this
theorem flat_left {C : List Int} {n M : Nat} (hC : ∀ x, x < n → ∃ k : Nat, k < M ∧ C[x]? = some (k : Int)) {D : List Nat} (h : (D.flatMap fun k : Nat => memK C n (k : Int)).length < n) : ∃ k, k < M ∧ k ∉ D := by
  refine Classical.byContradiction fun hc => ?_
  have := flat_all hC (D := D) (fun k hk => Classical.byContradiction fun h2 => hc ⟨k, hk, h2⟩)
  omega
theorem flat_done {C : List Int} {n M : Nat} (hs : ∀ k, k < M → ∃ x, x < n ∧ C[x]? = some (k : Int)) {D : List Nat} (hn : D.Nodup) (h : n ≤ (D.flatMap fun k : Nat => memK C n (k : Int)).length) : ∀ k, k < M → k ∈ D := by
  intro k hk
  refine Classical.byContradiction fun hkD => ?_
  have h1 := flat_le C n (D := D ++ [k]) (by
    rw [List.nodup_append]
    exact ⟨hn, by simp, fun a ha b hb e => by simp at hb; subst hb; subst e; exact hkD ha⟩)
  rw [List.flatMap_append, List.length_append] at h1
  obtain ⟨x, hx, hc⟩ := hs k hk
  have h2 : 0 < (memK C n (k : Int)).length := by
    rw [memK_N, List.length_map]
    exact List.length_pos_of_mem (mem_clsM.2 ⟨hx, hc⟩)
  rw [show ([k].flatMap fun k : Nat => memK C n (k : Int)) = memK C n (k : Int) by simp] at h1
  omega
theorem memK_pos {C : List Int} {n k : Nat} (h : ∃ x, x < n ∧ C[x]? = some (k : Int)) : 0 < (memK C n (k : Int)).length := by
  obtain ⟨x, hx, hc⟩ := h
  rw [memK_N, List.length_map]
  exact List.length_pos_of_mem (mem_clsM.2 ⟨hx, hc⟩)
theorem cls_onto {n : Nat} {f : Nat → Int} {k : Nat} (hk : k < (dist (fl n f)).length) : ∃ x, x < n ∧ (fl n (clf n f))[x]? = some (k : Int) := by
  obtain ⟨x, hx, h⟩ := clf_onto hk
  exact ⟨x, hx, by rw [fl_get _ hx, h]⟩
theorem cls_in {n : Nat} {f : Nat → Int} {x : Nat} (hx : x < n) : ∃ k : Nat, k < (dist (fl n f)).length ∧ (fl n (clf n f))[x]? = some (k : Int) := by
  have h := clf_rng (f := f) hx
  obtain ⟨k, hk⟩ := Int.eq_ofNat_of_zero_le h.1
  exact ⟨k, by omega, by rw [fl_get _ hx, hk]⟩
end Go.Proofs.YtclannenknhfpaaGreatDoor

namespace Go.Proofs.YtclannenknhfpaaGreatDoor
open Go.RowKit Pl

/-- A row: the type of its elements, the cells of each, the slice, how many elements, the cells. -/
structure Rw where
  T : TypeId
  k : Nat
  v : Value
  n : Nat
  xs : List Value

/-- The rows L of a call that began in w0, in the world w. -/
structure Rws (w0 w : World) (L : List Rw) : Prop where
  bel : Below w0.heap.size w0 w
  own : ∀ r ∈ L, w.ownsRow w0.heap.size r.T r.k r.v r.n r.xs
  apart : L.Pairwise (fun a b => ∀ g, a.v.ownBlock = some g → b.v.ownBlock ≠ some g)

section
variable {w0 w w' w1 : World} {L : List Rw} {r : Rw}

theorem own_blockR {base : Nat} {e : TypeId} {k n : Nat} {v : Value} {xs : List Value} (h : w.ownsRow base e k v n xs) (hb : ∀ g, v.ownBlock = some g → w'.heap[g]? = w.heap[g]?) : w'.ownsRow base e k v n xs := by
  refine ⟨h.1, ?_⟩
  rcases h.2 with h2 | ⟨g, cap, cur, hv, hbg, hg, r⟩
  · exact .inl h2
  · exact .inr ⟨g, cap, cur, hv, hbg, by rw [hb g (by rw [hv]; rfl)]; exact hg, r⟩

theorem Rws.call (h : Rws w0 w L) (hB : Below w.heap.size w w') : Rws w0 w' L :=
  ⟨h.bel.trans (hB.mono h.bel.size), fun r hr => own_below (h.own r hr) hB, h.apart⟩
theorem Rws.drew (h : Rws w0 w L) : Rws w0 w.drew L := h.call (Below.refl _ _).drew
theorem Rws.drewN (h : Rws w0 w L) (m : Nat) : Rws w0 (w.drewN m) L := h.call (bdrew (Below.refl _ _))
theorem Rws.alloc (h : Rws w0 w L) (o : Obj) : Rws w0 (w.alloc o) L := h.call ((Below.refl _ _).alloc (Nat.le_refl _) o)
theorem Rws.get (h : Rws w0 w L) {i : Nat} (hi : L[i]? = some r) : w.ownsRow w0.heap.size r.T r.k r.v r.n r.xs := h.own r (List.mem_of_getElem? hi)
theorem Rws.nil (hB : Below w0.heap.size w0 w) : Rws w0 w [] := ⟨hB, fun _ h => by simp at h, .nil⟩

/-- No two rows share a block. -/
theorem Rws.ne (h : Rws w0 w L) {i j : Nat} {a b : Rw} (hi : L[i]? = some a) (hj : L[j]? = some b) (hij : i ≠ j) {g : Nat} (ha : a.v.ownBlock = some g) : b.v.ownBlock ≠ some g := by
  have hp := List.pairwise_iff_getElem.1 h.apart
  obtain ⟨hil, rfl⟩ := List.getElem?_eq_some_iff.1 hi
  obtain ⟨hjl, rfl⟩ := List.getElem?_eq_some_iff.1 hj
  rcases Nat.lt_or_gt_of_ne hij with hlt | hlt
  · exact hp i j hil hjl hlt g ha
  · intro hb
    exact hp j i hjl hil hlt g hb ha

/-- One row put in the place of another one, all the others as they were. -/
theorem Rws.put (h : Rws w0 w L) {i : Nat} {a b : Rw} (hi : L[i]? = some a) (hB : Below w0.heap.size w0 w1)
    (hk : ∀ g, a.v.ownBlock ≠ some g → g < w.heap.size → w1.heap[g]? = w.heap[g]?) (ho : w1.ownsRow w0.heap.size b.T b.k b.v b.n b.xs)
    (hl : ∀ g, b.v.ownBlock = some g → a.v.ownBlock = some g ∨ w.heap.size ≤ g) : Rws w0 w1 (L.set i b) := by
  obtain ⟨hil, hia⟩ := List.getElem?_eq_some_iff.1 hi
  refine ⟨hB, fun r hr => ?_, ?_⟩
  · obtain ⟨j, hj, rfl⟩ := List.getElem_of_mem hr
    rw [List.getElem_set]
    by_cases e : i = j
    · rw [if_pos e]; exact ho
    · rw [if_neg e]
      have hjl : j < L.length := by simpa using hj
      have hjo := h.own L[j] (List.getElem_mem hjl)
      refine own_blockR hjo (fun g hg => hk g (fun e2 => ?_) (hjo.lt g hg).2)
      exact h.ne hi (List.getElem?_eq_getElem hjl) e e2 hg
  · rw [List.pairwise_iff_getElem]
    intro p q hp hq hpq g hg
    rw [List.length_set] at hp hq
    rw [List.getElem_set] at hg ⊢
    have key : ∀ j (hj : j < L.length), i ≠ j → b.v.ownBlock = some g → L[j].v.ownBlock = some g → False := fun j hj e hb hjg => by
      rcases hl g hb with h1 | h1
      · exact h.ne hi (List.getElem?_eq_getElem hj) e h1 hjg
      · have := ((h.own L[j] (List.getElem_mem hj)).lt g hjg).2; omega
    by_cases e1 : i = p
    · rw [if_pos e1] at hg
      rw [if_neg (by omega)]
      exact fun hq2 => key q hq (by omega) hg hq2
    · rw [if_neg e1] at hg
      by_cases e2 : i = q
      · rw [if_pos e2]
        exact fun hb => key p hp e1 hb hg
      · rw [if_neg e2]
        exact h.ne (List.getElem?_eq_getElem hp) (List.getElem?_eq_getElem hq) (by omega) hg

/-- A cell of a row is written. -/
theorem Rws.set (h : Rws w0 w L) (i : Nat) {T : TypeId} {k n m g c : Nat} {xs : List Value} (hi : L[i]? = some ⟨T, k, .slice (some ⟨g, 0, none⟩) m c, n, xs⟩) (j : Nat) (u : Value) :
    Rws w0 (w.setCell ⟨g, j, none⟩ u) (L.set i ⟨T, k, .slice (some ⟨g, 0, none⟩) m c, n, xs.set j u⟩) := by
  have ho := h.get hi
  have hmn : m = n := by
    rcases ho.2 with ⟨h2, _⟩ | ⟨g', cap', cur, hv, _⟩
    · simp at h2
    · simp only [Value.slice.injEq] at hv; exact hv.2.1
  subst hmn
  obtain ⟨h1, h2⟩ := ho.stored j u
  have hg := (ho.lt g rfl).1
  refine h.put hi (h.bel.setCell hg _) (fun b hb _ => Below.heap_setCell _ _ _ _ (fun e => hb (by simp [Value.ownBlock, e]))) h1 (fun b hb => .inl hb)

/-- A row has grown, in a world (w2) that grew out of the known one (w). -/
theorem Rws.grown {w2 : World} (h : Rws w0 w L) (hB2 : Below w.heap.size w w2) (i : Nat) {T : TypeId} {k n n' : Nat} {v v' : Value} {xs xs' : List Value} (hi : L[i]? = some ⟨T, k, v, n, xs⟩) (ho : w1.ownsRow w0.heap.size T k v' n' xs') (hg : w2.grownBy w1 v.ownBlock)
    (hl : ∀ g, v'.ownBlock = some g → v.ownBlock = some g ∨ w.heap.size ≤ g) : Rws w0 w1 (L.set i ⟨T, k, v', n', xs'⟩) :=
  h.put hi ((h.bel.trans (hB2.mono h.bel.size)).grown hg (Nat.le_trans h.bel.size hB2.size) (fun b hb => ((h.get hi).lt b hb).1))
    (fun b hb hl => (hg.block b (Nat.lt_of_lt_of_le hl hB2.size) (fun e => hb e.symm)).trans (hB2.block b hl)) ho hl

/-- A new row. -/
theorem Rws.add (h : Rws w0 w L) {T : TypeId} {k n : Nat} {v : Value} {xs : List Value} (hB : Below w.heap.size w w1) (ho : w1.ownsRow w.heap.size T k v n xs) : Rws w0 w1 (⟨T, k, v, n, xs⟩ :: L) where
  bel := h.bel.trans (hB.mono h.bel.size)
  own r hr := by
    rcases List.mem_cons.1 hr with rfl | hr
    · exact own_mono ho h.bel.size
    · exact own_below (h.own r hr) hB
  apart := by
    refine List.pairwise_cons.2 ⟨fun b hb g hg hg2 => ?_, h.apart⟩
    have := (ho.lt g hg).1
    have := ((h.own b hb).lt g hg2).2
    omega
/-- .. that is nil. -/
theorem Rws.addNil (h : Rws w0 w L) (T : TypeId) (k : Nat) : Rws w0 w (⟨T, k, .slice none 0 0, 0, []⟩ :: L) :=
  h.add (Below.refl _ _) (World.ownsRow_nil _ _ _ _)
/-- .. a block of cells that has just been laid. -/
theorem Rws.addLit (h : Rws w0 w L) (cs : Array Value) (T : TypeId) {k n : Nat} (hm : n ≤ maxLen) (hs : cs.size = n * k) : Rws w0 (w.alloc (.cells cs T)) (⟨T, k, .slice (some ⟨w.heap.size, 0, none⟩) n n, n, cs.toList⟩ :: L) :=
  h.add ((Below.refl _ _).alloc (Nat.le_refl _) _) (World.ownsRow_lit w cs n (Nat.le_refl _) hm hs)

/-- The rows in another order. -/
theorem Rws.perm {L' : List Rw} (h : Rws w0 w L) (hp : L.Perm L') : Rws w0 w L' :=
  ⟨h.bel, fun r hr => h.own r (hp.mem_iff.2 hr), h.apart.perm hp (fun {_ _} h1 g hg hg2 => h1 g hg2 hg)⟩
/-- Fewer rows. -/
theorem Rws.sub {L' : List Rw} (h : Rws w0 w L) (hs : L'.Sublist L) : Rws w0 w L' :=
  ⟨h.bel, fun r hr => h.own r (hs.subset hr), h.apart.sublist hs⟩

/-- What a row's slice looks like, and where it lies. -/
theorem Rws.form (h : Rws w0 w L) {i : Nat} {T : TypeId} {k n : Nat} {v : Value} {xs : List Value} (hi : L[i]? = some ⟨T, k, v, n, xs⟩) (hn : 0 < n) : ∃ g c, v = .slice (some ⟨g, 0, none⟩) n c ∧ n ≤ c ∧ c ≤ maxLen ∧ w0.heap.size ≤ g ∧ g < w.heap.size := by
  have ho := h.get hi
  rcases ho.2 with ⟨_, h2⟩ | ⟨g, c, cur, hv, hb, hg, h3, h4, _⟩
  · have h2 : n = 0 := h2
    omega
  · exact ⟨g, c, hv, h3, h4, hb, (Array.getElem?_eq_some_iff.1 hg).1⟩
/-- A cell of a row reads. -/
theorem Rws.cell (h : Rws w0 w L) {i : Nat} {T : TypeId} {k n m g c : Nat} {xs : List Value} (hi : L[i]? = some ⟨T, k, .slice (some ⟨g, 0, none⟩) m c, n, xs⟩) {j : Nat} {u : Value} (hj : xs[j]? = some u) : w.cell? ⟨g, j, none⟩ = some u := by
  have ho := h.get hi
  have := ho.cells rfl j u hj
  have hadd : (⟨g, 0, none⟩ : Addr).add j = ⟨g, j, none⟩ := by unfold Addr.add; split <;> simp_all
  rwa [hadd] at this
theorem Rws.fz (h : Rws w0 w L) {i : Nat} {T : TypeId} {k n m g c : Nat} {xs : List Value} (hi : L[i]? = some ⟨T, k, .slice (some ⟨g, 0, none⟩) m c, n, xs⟩) (j : Nat) : w.frozen? ⟨g, j, none⟩ = false := by
  have ho := h.get hi
  rcases ho.2 with ⟨h2, _⟩ | ⟨g', c', cur, hv, _, hg, _⟩
  · simp at h2
  · simp only [Value.slice.injEq, Option.some.injEq, Addr.mk.injEq, and_true] at hv
    obtain ⟨rfl, _⟩ := hv
    simp [World.frozen?, hg]
theorem Rws.lt (h : Rws w0 w L) {i : Nat} {T : TypeId} {k n m g c : Nat} {xs : List Value} (hi : L[i]? = some ⟨T, k, .slice (some ⟨g, 0, none⟩) m c, n, xs⟩) : w0.heap.size ≤ g ∧ g < w.heap.size := (h.get hi).lt g rfl
theorem Rws.ne' (h : Rws w0 w L) {i j : Nat} {T T' : TypeId} {k n m g c k' n' m' g' c' : Nat} {xs xs' : List Value} (hi : L[i]? = some ⟨T, k, .slice (some ⟨g, 0, none⟩) m c, n, xs⟩) (hj : L[j]? = some ⟨T', k', .slice (some ⟨g', 0, none⟩) m' c', n', xs'⟩) (hij : i ≠ j) : g ≠ g' := fun e =>
  h.ne hi hj hij rfl (by simp [Value.ownBlock, e])
/-- A row reads as a list. -/
theorem Rws.sl (h : Rws w0 w L) {α : Type} {enc : α → List Value} {i : Nat} {T : TypeId} {k n : Nat} {v : Value} {ys : List α} (hi : L[i]? = some ⟨T, k, v, n, ys.flatMap enc⟩) (hk : ∀ x, (enc x).length = k) (hn : n = ys.length) :
    ∃ a c b, v = .slice a ys.length c ∧ ys.length ≤ c ∧ c ≤ maxLen ∧ SlAt enc k w a b 0 ys ∧ (0 < ys.length → w0.heap.size ≤ b) := by
  subst hn
  exact slAt_own hk (h.get hi)
end

/-- An append, in a plain region: the new value written out, in the old block or in one from B on. -/
theorem wpList_lie {P : Program} {w : World} {ops : Array Oper} {rest : List Oper} {o : Oper} {a : Act} {Q : Exit → Act → World → Prop} (hgd : o.guard = none) (s x : Operand) (t : TypeId)
    (ho : o.op = .call { callee := .builtin .append, args := #[s, x], argTypes := #[t, t] })
    {e : TypeId} {size bytes : Nat} {z : Value} (R : IsRow P t e size bytes z) {base : Nat} (hb0 : base ≤ w.heap.size)
    {v : Value} {n : Nat} {xs : List Value} (hs : a.eval s = v) (hown : w.ownsRow base e size v n xs)
    (ad : Addr) (m c : Nat) (news : List Value) (hx : a.eval x = .slice (some ad) m c) (hl : news.length = m * size) (hnews : ∀ j u, news[j]? = some u → w.cell? (ad.add j) = some u) (h1 : ∀ u ∈ news, u.oneCell' = true) (hm : 0 < m)
    (hbytes : (n + m) * bytes ≤ 140737488355328) (hmax : n + m ≤ maxLen) (B : Nat) (hB : B ≤ w.heap.size)
    (h : ∀ g cap w', w'.ownsRow base e size (.slice (some ⟨g, 0, none⟩) (n + m) cap) (n + m) (xs ++ news) → w.grownBy w' v.ownBlock → (v.ownBlock = some g ∨ B ≤ g) → g < w'.heap.size → wpList P ops Q rest (a.put o.dst (.slice (some ⟨g, 0, none⟩) (n + m) cap)) w') : wpList P ops Q (o :: rest) a w := by
  obtain ⟨i, hi, hz, hsz, hby⟩ := R.info
  exact wpList_plain hgd fun _ hK => wp_append_lies w s x t ho base e i z size bytes R.ht hi hz hsz hby R.zs R.pos v n xs hs hown ad m c news hx hl hnews h1 hm hmax hbytes hb0 w.heap.size rfl (fun g cap w' h2 h3 h4 h5 => hK _ _ (h g cap w' h2 h3 (h4.imp_right (fun e => by omega)) h5))

/-- .. at a step of a region that draws its order. -/
theorem step_lie {P : Program} {w : World} {ops : Array Oper} {o : Oper} {a : Act} {K : Act → World → Prop} {Q : Exit → Act → World → Prop} {F : Prop} (hgd : o.guard = none) (s x : Operand) (t : TypeId)
    (ho : o.op = .call { callee := .builtin .append, args := #[s, x], argTypes := #[t, t] })
    {e : TypeId} {size bytes : Nat} {z : Value} (R : IsRow P t e size bytes z) {base : Nat} (hb0 : base ≤ w.heap.size)
    {v : Value} {n : Nat} {xs : List Value} (hs : a.eval s = v) (hown : w.ownsRow base e size v n xs)
    (ad : Addr) (m c : Nat) (news : List Value) (hx : a.eval x = .slice (some ad) m c) (hl : news.length = m * size) (hnews : ∀ j u, news[j]? = some u → w.cell? (ad.add j) = some u) (h1 : ∀ u ∈ news, u.oneCell' = true) (hm : 0 < m)
    (hbytes : (n + m) * bytes ≤ 140737488355328) (hmax : n + m ≤ maxLen) (B : Nat) (hB : B ≤ w.heap.size)
    (h : ∀ g cap w', w'.ownsRow base e size (.slice (some ⟨g, 0, none⟩) (n + m) cap) (n + m) (xs ++ news) → w.grownBy w' v.ownBlock → (v.ownBlock = some g ∨ B ≤ g) → g < w'.heap.size → K (a.put o.dst (.slice (some ⟨g, 0, none⟩) (n + m) cap)) w') :
    if Region.wanted o (yielded ops a.tmps) = true then Oper.wp P o a w K Q else F := by
  have hw : Region.wanted o (yielded ops a.tmps) = true := by simp [Region.wanted, hgd]
  rw [if_pos hw]
  obtain ⟨i, hi, hz, hsz, hby⟩ := R.info
  exact wp_append_lies w s x t ho base e i z size bytes R.ht hi hz hsz hby R.zs R.pos v n xs hs hown ad m c news hx hl hnews h1 hm hmax hbytes hb0 w.heap.size rfl (fun g cap w' h2 h3 h4 h5 => h g cap w' h2 h3 (h4.imp_right (fun e => by omega)) h5)
end Go.Proofs.YtclannenknhfpaaGreatDoor
