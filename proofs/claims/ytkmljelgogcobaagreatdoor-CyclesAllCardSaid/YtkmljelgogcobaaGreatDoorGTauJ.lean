/-
  tauscc.Order: all states, what silent steps lead to ahead.
  tauscc.Order: how the counts of what is waited for go down.
  tauscc.Order: a right system.
  law11.alive: the small system that every law of chapter 11 asks first.
  semblancebook.Lent, Stays: systems lent with room behind their edges.
  semblanceref1.Bad: the reference's errors.
  semblanceref7.Right: is it a system?
  semblanceref1.On, semblanceref7.Check, semblanceref7.Handed of a wrong system.
  law9.Light; semblanceref7.Check, Handed of a right system.
  semblanceref7.Canon, Classes, Together; system.Together; numbers lent.
  semblanceref7.Together (split off Forms2).
-/
import Derived.Test.YtkmljelgogcobaaGreatDoorGTauG
import Derived.Test.YtkmljelgogcobaaGreatDoorGPl3
import Derived.Test.YtkmljelgogcobaaGreatDoorGLaidCya
import Derived.Test.YtkmljelgogcobaaGreatDoorGClone
import Derived.Test.YtkmljelgogcobaaGreatDoorGCompact
import Derived.Deep.RegionHeld3
import Derived.Deep.QuietTactic
import Derived.BigQuiet
import Derived.IntWalk
import Derived.Test.YtkmljelgogcobaaGreatDoorGAs
import Derived.Test.YtkmljelgogcobaaGreatDoorRefSort2
import Derived.Test.YtkmljelgogcobaaGreatDoorGBkEp
import Derived.Test.YtkmljelgogcobaaGreatDoorGRows2
import Derived.Deep.DeepMust
namespace Go.Proofs.YtkmljelgogcobaaGreatDoor
open Go.RowKit Pl

set_option maxRecDepth 100000 in
theorem orderNo_any {p : Addr} {s : Lts} (h : ¬ s.Right) {a : Option Addr} {b off c : Nat} {w : World} (hG : GErr 0 p w) (hT : ErrType w) (hS : SlAt encE 3 w a b off s.es) :
    Calls Tryz.prog 31 #[.agg #[.int .i64 s.st, .int .i64 s.lb, .int .i64 s.s0, .slice a s.es.length c]] w fun e w' =>
      ∃ v, e = .returned (.tuple #[.slice none 0 0, v]) ∧ Fault2 w' p v ∧ Below w.heap.size w w' := by
  have hB0 := (Below.refl w.heap.size w).alloc (Nat.le_refl _) (Obj.cells #[.int .i64 s.st, .int .i64 s.lb, .int .i64 s.s0, .slice a s.es.length c] 24)
  have hN := collapseNo_any (c := c) h (hG.below hB0) (hT.below hB0) (hS.below hB0 (Nat.le_refl _))
  have HN := Lib.hid hN; have HB0 := Lib.hid hB0
  clear hN hB0 hS hG h hT
  go_enter Tryz.func31, Tryz.ntmps31
  go_wp2_with fail
  refine HN.out.mono ?_
  rintro e w1 ⟨v, rfl, hF, hB1⟩
  obtain ⟨vi, hf1, hf2⟩ := id hF
  obtain ⟨fb, rfl, _⟩ := hf1.ex
  have HF := Lib.hid (hF.below ((Below.refl w1.heap.size w1).alloc (Nat.le_refl _) (Obj.cells #[.int .i64 0, .int .i64 0, .int .i64 0, .slice none 0 0] 24)))
  have hB := HB0.out.trans (hB1.mono (by simp))
  have HB := Lib.hid (hB.alloc hB.size (Obj.cells #[.int .i64 0, .int .i64 0, .int .i64 0, .slice none 0 0] 24))
  clear hf1 hf2 hF hB1 hB
  go_wp2
  go_ret2
  exact ⟨_, rfl, HF.out, HB.out⟩

/-- A row of lists that grow one by one; nothing else that stood is touched. -/
structure OG (w1 wr : World) (ob n : Nat) (f : Nat → List Int) : Prop where
  rows : OwnRows encI 1 3 49 wr w1.heap.size ob n f
  bel : Below ob w1 wr
  oth : ∀ b, b < w1.heap.size → b ≠ ob → wr.heap[b]? = w1.heap[b]?
theorem OG.sl {α : Type} {enc : α → List Value} {m : Nat} {w1 wr : World} {ob n : Nat} {f : Nat → List Int} {a : Option Addr} {b off : Nat} {xs : List α} (h : OG w1 wr ob n f) (hS : SlAt enc m w1 a b off xs) (hb : 0 < xs.length → b ≠ ob) : SlAt enc m wr a b off xs :=
  ⟨hS.ad, fun hp => Nat.lt_of_lt_of_le (hS.lt hp) h.bel.size, fun i x hx j u hu => by
    have hp : 0 < xs.length := by have := (List.getElem?_eq_some_iff.1 hx).1; omega
    rw [World.cell?_of_block (w := w1) (a := ⟨b, off + i * m + j, none⟩) (h.oth b (hS.lt hp) (hb hp))]
    exact hS.cell i x hx j u hu⟩
theorem OG.congr {w1 wr : World} {ob n : Nat} {f f' : Nat → List Int} (h : OG w1 wr ob n f) (e : ∀ i, f i = f' i) : OG w1 wr ob n f' := by
  have : f = f' := funext e
  rw [← this]; exact h
theorem OG.open {w1 wr : World} {ob n : Nat} {f : Nat → List Int} (h : OG w1 wr ob n f) {p : Nat} (hp : p < n) : ∃ v, wr.cell? ⟨ob, p, none⟩ = some v ∧ wr.frozen? ⟨ob, p, none⟩ = false ∧ wr.ownsRow w1.heap.size 3 1 v (f p).length ((f p).flatMap encI) ∧
    ∀ (w2 w3 : World) (g cap : Nat) (ys : List Int), Below wr.heap.size wr w2 → w3.ownsRow w1.heap.size 3 1 (.slice (some ⟨g, 0, none⟩) ys.length cap) ys.length (ys.flatMap encI) → w2.grownBy w3 v.ownBlock → (v.ownBlock = some g ∨ wr.heap.size ≤ g) →
      w3.cell? ⟨ob, p, none⟩ = some v ∧ w3.frozen? ⟨ob, p, none⟩ = false ∧
      OG w1 (w3.setCell ⟨ob, p, none⟩ (.slice (some ⟨g, 0, none⟩) ys.length cap)) ob n (fun i => if i = p then ys else f i) := by
  obtain ⟨v, h1, h2, h3, h4⟩ := h.rows.open hp
  refine ⟨v, h1, h2, h3, fun w2 w3 g cap ys hB hown hg hgg => ?_⟩
  have hs := h.bel.size
  have hob := h.rows.lt
  obtain ⟨h5, h6, h7⟩ := h4 w2 w3 g cap ys hB (Nat.le_trans hs hB.size) hown hg hgg
  have hv : ∀ b, b < w1.heap.size → some b ≠ v.ownBlock := fun b hb e => by have := (h3.lt b e.symm).1; omega
  refine ⟨h5, h6, h7, ((h.bel.trans (hB.mono (by omega))).grown hg (by have := hB.size; omega) (fun k hk => by have := (h3.lt k hk).1; omega)).setCell (Nat.le_refl _) _, fun b hb hne => ?_⟩
  rw [Below.heap_setCell _ _ _ _ hne, hg.block b (by have := hB.size; omega) (hv b hb), hB.block b (by omega)]
  exact h.oth b hb hne

/-- The states of a class, of the first k. -/
def memK (C : List Int) (k : Nat) (c : Int) : List Int := ((List.range k).filter (fun x => decide (C[x]? = some c))).map Int.ofNat
theorem memK_snoc {C : List Int} {k : Nat} {x : Int} (hx : C[k]? = some x) (c : Int) : memK C (k + 1) c = if x = c then memK C k c ++ [(k : Int)] else memK C k c := by
  unfold memK
  rw [List.range_succ, List.filter_append, List.map_append]
  by_cases h : x = c
  · subst h; rw [if_pos rfl]; simp [hx]
  · rw [if_neg h]; simp [hx, h]
theorem memK_len (C : List Int) (k : Nat) (c : Int) : (memK C k c).length ≤ k := by
  unfold memK
  rw [List.length_map]
  have := List.length_filter_le (fun x => decide (C[x]? = some c)) (List.range k)
  rwa [List.length_range] at this
end Go.Proofs.YtkmljelgogcobaaGreatDoor

namespace Go.Proofs.YtkmljelgogcobaaGreatDoor
open Go.RowKit Pl

theorem srtS_filter : ∀ (l : List S), Srt ltS l → (∀ y ∈ l, 0 ≤ y.1) → l.takeWhile (fun y => y.1 == 0) = l.filter (fun y => y.1 == 0)
  | [], _, _ => rfl
  | x :: l, h, h0 => by
    have hh := List.pairwise_cons.1 h
    by_cases e : x.1 = 0
    · have e2 : (x.1 == 0) = true := by simp [e]
      rw [List.takeWhile_cons, List.filter_cons, e2]
      simp only [if_true]
      rw [srtS_filter l hh.2 (fun y hy => h0 y (List.mem_cons_of_mem _ hy))]
    · have e2 : (x.1 == 0) = false := by simp [e]
      rw [List.takeWhile_cons, List.filter_cons, e2]
      simp only [Bool.false_eq_true, if_false]
      symm
      rw [List.filter_eq_nil_iff]
      intro y hy
      have h1 := hh.1 y hy
      rw [ltS_iff] at h1
      have h2 := h0 x List.mem_cons_self
      simp; omega
section
variable {t : Lts}
theorem outs_len_taus (hr : t.Right) (hs : Srt ltE t.es) (k : Nat) : (withL 0 (t.outs (k : Int))).length = Wt t [] k := by
  rw [Wt_nil]
  unfold withL taus
  rw [srtS_filter _ (outs_srt hs _) (fun z hz => (offB_false.1 (hr.edges _ (mem_outs.1 hz))).2.2.1)]
  simp
theorem mem_from {k : Nat} {x : Int} : x ∈ withL 0 (t.ins (k : Int)) ↔ (x, 0, (k : Int)) ∈ t.es := by
  unfold withL Lts.ins
  simp only [List.mem_map, List.mem_filter, beq_iff_eq]
  constructor
  · rintro ⟨y, ⟨⟨z, ⟨h1, h2⟩, rfl⟩, h3⟩, rfl⟩
    obtain ⟨z1, z2, z3⟩ := z
    simp only at h2 h3 ⊢
    subst h2 h3
    exact (mem_nf stoB _ t.es).1 h1
  · intro h
    exact ⟨(0, x), ⟨⟨(x, 0, (k : Int)), ⟨(mem_nf stoB _ t.es).2 h, rfl⟩, rfl⟩, rfl⟩, rfl⟩
theorem from_tau {k j : Nat} : (j : Int) ∈ withL 0 (t.ins (k : Int)) ↔ tau t j k := mem_from
theorem from_nodup (k : Nat) : (withL 0 (t.ins (k : Int))).Nodup := by
  unfold withL List.Nodup
  rw [List.pairwise_map]
  refine List.Pairwise.imp_of_mem ?_ (List.Pairwise.filter (fun y : S => y.1 == 0) (ins_srt (s := t) (k : Int)))
  intro a b ha hb hab e
  have h1 := (List.mem_filter.1 ha).2; have h2 := (List.mem_filter.1 hb).2
  simp only [beq_iff_eq] at h1 h2
  rw [ltS_iff] at hab
  omega
theorem from_rng (hr : t.Right) {m : Nat} (hm : t.st = (m : Int)) {k : Nat} {x : Int} (h : x ∈ withL 0 (t.ins (k : Int))) : ∃ j : Nat, x = (j : Int) ∧ j < m := by
  have h1 := offB_false.1 (hr.edges _ (mem_from.1 h))
  simp only at h1
  exact ⟨x.toNat, by omega, by omega⟩

/-- What waits holds. -/
def W8 (t : Lts) (D : List Nat) (j : Nat) : Int := if j ∈ D then -1 else (Wt t D j : Int)
/-- .. behind k's turn, m of those that lead to it told. -/
def W9 (t : Lts) (D : List Nat) (k : Nat) (L : List Int) (j : Nat) : Int := (if j = k then -1 else W8 t D j) - (L.count (j : Int) : Int)
theorem W9_nil (D : List Nat) (k : Nat) (j : Nat) : W9 t D k [] j = if j = k then -1 else W8 t D j := by simp [W9]
theorem W9_snoc (D : List Nat) (k : Nat) (L : List Int) (x j : Nat) : W9 t D k (L ++ [(x : Int)]) j = if j = x then W9 t D k L x - 1 else W9 t D k L j := by
  unfold W9
  rw [List.count_append]
  by_cases h : j = x
  · subst h; rw [if_pos rfl]; simp; omega
  · rw [if_neg h]
    have : ¬ ((x : Int) = (j : Int)) := by omega
    simp [this]
theorem W9_end (hr : t.Right) (hs : Srt ltE t.es) {m : Nat} {D : List Nat} {k : Nat} (hD : OrdL t m D) (hk : IsNext t m D k) (j : Nat) : W9 t D k (withL 0 (t.ins (k : Int))) j = W8 t (D ++ [k]) j := by
  have hc : ((withL 0 (t.ins (k : Int))).count (j : Int)) = if (j : Int) ∈ withL 0 (t.ins (k : Int)) then 1 else 0 := List.Nodup.count (from_nodup k)
  have hz := (Wt_zero hr hs).1 hk.all
  unfold W9
  rw [hc]
  by_cases hj : j = k
  · subst hj
    rw [if_pos rfl]
    have h1 : ¬ (j : Int) ∈ withL 0 (t.ins (j : Int)) := fun h => hk.new (hz j (from_tau.1 h))
    rw [if_neg h1]
    unfold W8; rw [if_pos (by simp)]; rfl
  · rw [if_neg hj]
    unfold W8
    by_cases hjD : j ∈ D
    · have h1 : ¬ (j : Int) ∈ withL 0 (t.ins (k : Int)) := fun h => hk.new (hD.closed hr hs hjD (from_tau.1 h))
      rw [if_neg h1, if_pos hjD, if_pos (show j ∈ D ++ [k] by simp [hjD])]; rfl
    · rw [if_neg hjD, if_neg (show ¬ j ∈ D ++ [k] by simp [hjD, hj])]
      haveI : Decidable (tau t j k) := Classical.propDecidable _
      have h2 := Wt_add hr hs hk.new j
      by_cases h3 : tau t j k
      · rw [if_pos (from_tau.2 h3)]; rw [if_pos h3] at h2; rw [h2]; omega
      · rw [if_neg (fun h => h3 (from_tau.1 h))]; rw [if_neg h3] at h2; rw [h2]; omega
theorem W8_zero (D : List Nat) (j : Nat) : W8 t D j = 0 ↔ j ∉ D ∧ Wt t D j = 0 := by
  unfold W8
  by_cases h : j ∈ D
  · rw [if_pos h]; simp [h]
  · rw [if_neg h]; simp [h]
theorem Wt_le (hr : t.Right) (D : List Nat) (j : Nat) : Wt t D j ≤ 10000 := by
  unfold Wt taus
  have h1 := outs_len hr (j : Int)
  have h2 := List.length_filter_le (fun y => !decide (y ∈ D)) (((t.outs (j : Int)).takeWhile (fun y => y.1 == 0)).map (fun y => y.2.toNat))
  rw [List.length_map] at h2
  have h3 := (List.takeWhile_sublist (fun y : S => y.1 == 0) (l := t.outs (j : Int))).length_le
  omega
theorem W8_rng (hr : t.Right) (D : List Nat) (j : Nat) : -1 ≤ W8 t D j ∧ W8 t D j ≤ 10000 := by
  have := Wt_le hr D j
  unfold W8; split <;> omega
theorem W9_rng (hr : t.Right) (D : List Nat) (k : Nat) (L : List Int) (hL : L.length ≤ 10000) (j : Nat) : -10001 ≤ W9 t D k L j ∧ W9 t D k L j ≤ 10000 := by
  have h1 := W8_rng hr D j
  have h2 := List.count_le_length (a := (j : Int)) (l := L)
  unfold W9; split <;> omega
end

/-- The row waits within the loops. -/
structure OQ (W wr : World) (M : Nat) (f : Nat → Int) : Prop where
  rows : wr.rowIs W.heap.size 3 M (fun j => .int .i64 (f j))
  bel : Below W.heap.size W wr
theorem OQ.call {W wr w' : World} {M : Nat} {f : Nat → Int} (h : OQ W wr M f) (hB : Below wr.heap.size wr w') : OQ W w' M f :=
  ⟨h.rows.of_block (hB.block _ h.rows.lt), h.bel.trans (hB.mono h.bel.size)⟩
theorem OQ.set {W wr : World} {M : Nat} {f : Nat → Int} (h : OQ W wr M f) (i : Nat) (x : Int) : OQ W (wr.setCell ⟨W.heap.size, i, none⟩ (.int .i64 x)) M (fun j => if j = i then x else f j) :=
  ⟨(h.rows.set i (.int .i64 x)).congr (fun j _ => by by_cases e : j = i <;> simp [e]), h.bel.setCell (Nat.le_refl _) _⟩
theorem OQ.congr {W wr : World} {M : Nat} {f g : Nat → Int} (h : OQ W wr M f) (e : ∀ j, j < M → f j = g j) : OQ W wr M g :=
  ⟨h.rows.congr (fun j hj => by rw [e j hj]), h.bel⟩
theorem OQ.grown {W wr w' : World} {M : Nat} {f : Nat → Int} {v : Value} {e : TypeId} {k n : Nat} {xs : List Value} (h : OQ W wr M f) (ho : wr.ownsRow (W.heap.size + 1) e k v n xs) (hg : wr.grownBy w' v.ownBlock) : OQ W w' M f :=
  ⟨h.rows.of_block (hg.block _ h.rows.lt (fun e => by have := (ho.lt _ e.symm).1; omega)), h.bel.grown hg h.bel.size (fun k hk => by have := (ho.lt k hk).1; omega)⟩

/-- The states of a class, plain. -/
def clsM (C : List Int) (n : Nat) (k : Nat) : List Nat := (List.range n).filter (fun x => decide (C[x]? = some (k : Int)))
theorem memK_N (C : List Int) (n k : Nat) : memK C n (k : Int) = (clsM C n k).map Int.ofNat := rfl
theorem mem_clsM {C : List Int} {n k x : Nat} : x ∈ clsM C n k ↔ x < n ∧ C[x]? = some (k : Int) := by simp [clsM]
theorem flat_N (C : List Int) (n : Nat) (D : List Nat) : (D.flatMap fun k : Nat => memK C n (k : Int)) = (D.flatMap (clsM C n)).map Int.ofNat := by
  induction D with
  | nil => rfl
  | cons k D ih => rw [List.flatMap_cons, List.flatMap_cons, List.map_append, ih, memK_N]
theorem flatN_nodup (C : List Int) (n : Nat) {D : List Nat} (h : D.Nodup) : (D.flatMap (clsM C n)).Nodup := by
  unfold List.Nodup
  rw [List.pairwise_flatMap]
  refine ⟨fun k _ => List.Nodup.sublist List.filter_sublist List.nodup_range, List.Pairwise.imp ?_ h⟩
  intro a b hab x hx y hy e
  subst e
  have h1 := (mem_clsM.1 hx).2; have h2 := (mem_clsM.1 hy).2
  rw [h1] at h2
  simp only [Option.some.injEq] at h2
  exact hab (by omega)
theorem flat_le (C : List Int) (n : Nat) {D : List Nat} (h : D.Nodup) : (D.flatMap fun k : Nat => memK C n (k : Int)).length ≤ n := by
  rw [flat_N, List.length_map]
  have := nodup_sub _ (List.range n) (flatN_nodup C n h) (fun x hx => by
    obtain ⟨k, _, hk⟩ := List.mem_flatMap.1 hx
    exact List.mem_range.2 (mem_clsM.1 hk).1)
  rwa [List.length_range] at this
theorem flat_all {C : List Int} {n M : Nat} (hC : ∀ x, x < n → ∃ k : Nat, k < M ∧ C[x]? = some (k : Int)) {D : List Nat} (hD : ∀ k, k < M → k ∈ D) : n ≤ (D.flatMap fun k : Nat => memK C n (k : Int)).length := by
  rw [flat_N, List.length_map]
  have := nodup_sub (List.range n) (D.flatMap (clsM C n)) List.nodup_range (fun x hx => by
    have hx := List.mem_range.1 hx
    obtain ⟨k, hk, hc⟩ := hC x hx
    exact List.mem_flatMap.2 ⟨k, hD k hk, mem_clsM.2 ⟨hx, hc⟩⟩)
  rwa [List.length_range] at this
theorem flat_left {C : List Int} {n M : Nat} (hC : ∀ x, x < n → ∃ k : Nat, k < M ∧ C[x]? = some (k : Int)) {D : List Nat} (h : (D.flatMap fun k : Nat => memK C n (k : Int)).length < n) : ∃ k, k < M ∧ k ∉ D := by
  refine Classical.byContradiction fun hc => ?_
  have := flat_all hC (D := D) (fun k hk => Classical.byContradiction fun h2 => hc ⟨k, hk, h2⟩)
  omega
theorem flat_done {C : List Int} {n M : Nat} (hs : ∀ k, k < M → ∃ x, x < n ∧ C[x]? = some (k : Int)) {D : List Nat} (hn : D.Nodup) (h : n ≤ (D.flatMap fun k : Nat => memK C n (k : Int)).length) : ∀ k, k < M → k ∈ D := by
  intro k hk
  refine Classical.byContradiction fun hkD => ?_
  have h1 := flat_le C n (D := D ++ [k]) (by
    rw [List.nodup_append]
    exact ⟨hn, by simp, fun a ha b hb e => by simp at hb; subst hb; subst e; exact hkD ha⟩)
  rw [List.flatMap_append, List.length_append] at h1
  obtain ⟨x, hx, hc⟩ := hs k hk
  have h2 : 0 < (memK C n (k : Int)).length := by
    rw [memK_N, List.length_map]
    exact List.length_pos_of_mem (mem_clsM.2 ⟨hx, hc⟩)
  rw [show ([k].flatMap fun k : Nat => memK C n (k : Int)) = memK C n (k : Int) by simp] at h1
  omega
theorem memK_pos {C : List Int} {n k : Nat} (h : ∃ x, x < n ∧ C[x]? = some (k : Int)) : 0 < (memK C n (k : Int)).length := by
  obtain ⟨x, hx, hc⟩ := h
  rw [memK_N, List.length_map]
  exact List.length_pos_of_mem (mem_clsM.2 ⟨hx, hc⟩)
theorem cls_onto {n : Nat} {f : Nat → Int} {k : Nat} (hk : k < (dist (fl n f)).length) : ∃ x, x < n ∧ (fl n (clf n f))[x]? = some (k : Int) := by
  obtain ⟨x, hx, h⟩ := clf_onto hk
  exact ⟨x, hx, by rw [fl_get _ hx, h]⟩
theorem cls_in {n : Nat} {f : Nat → Int} {x : Nat} (hx : x < n) : ∃ k : Nat, k < (dist (fl n f)).length ∧ (fl n (clf n f))[x]? = some (k : Int) := by
  have h := clf_rng (f := f) hx
  obtain ⟨k, hk⟩ := Int.eq_ofNat_of_zero_le h.1
  exact ⟨k, by omega, by rw [fl_get _ hx, hk]⟩
end Go.Proofs.YtkmljelgogcobaaGreatDoor

namespace Go.Proofs.YtkmljelgogcobaaGreatDoor
open Go.RowKit Pl

/-- What Order answers. -/
def OrdPost (s : Lts) (n : Nat) (w : World) (e : Ending) (w' : World) : Prop :=
  ∃ (f : Nat → Int) (D : List Nat) (v : Value), Cyc s n f ∧ OrdL (col s (fl n (clf n f))) (dist (fl n (clf n f))).length D ∧ (∀ k, k < (dist (fl n (clf n f))).length → k ∈ D) ∧ e = .returned (.tuple #[v, .nilIface]) ∧
    w'.ownsRow w.heap.size 3 1 v n ((D.flatMap fun k : Nat => memK (fl n (clf n f)) n (k : Int)).flatMap encI) ∧ Below w.heap.size w w'

set_option maxRecDepth 100000 in
set_option maxHeartbeats 8000000 in
theorem orderYes_any {p : Addr} {s : Lts} {n : Nat} (h : s.Right) (hn : s.st = (n : Int)) {a : Option Addr} {b off c : Nat} {w : World} (hG : GErr 0 p w) (hS : SlAt encE 3 w a b off s.es) :
    Calls Tryz.prog 31 #[.agg #[.int .i64 s.st, .int .i64 s.lb, .int .i64 s.s0, .slice a s.es.length c]] w (OrdPost s n w) := by
  have hst := h.st0
  have hn1 : n ≤ 1000 := by omega
  have hB0 := (Below.refl w.heap.size w).alloc (Nat.le_refl _) (Obj.cells #[.int .i64 s.st, .int .i64 s.lb, .int .i64 s.s0, .slice a s.es.length c] 24)
  have hX0 := heap_alloc_new w (Obj.cells #[.int .i64 s.st, .int .i64 s.lb, .int .i64 s.s0, .slice a s.es.length c] 24)
  have hN := collapseYes_any (c := c) h hn (hG.below hB0) (hS.below hB0 (Nat.le_refl _))
  rw [hn] at hN hB0 hX0
  have HN := Lib.hid hN; have HB0 := Lib.hid hB0; have HR := Lib.hid h; have HNN := Lib.hid hn; have HST := Lib.hid hst; have HX0 := Lib.hid hX0; have HG := Lib.hid hG
  rw [hn]
  clear hN hB0 hS hG h hn hst hX0
  obtain ⟨el, hel⟩ : ∃ el, el = s.es.length := ⟨_, rfl⟩
  rw [← hel] at HN HB0 HX0 ⊢
  clear hel
  go_enter Tryz.func31, Tryz.ntmps31
  go_wp2_with fail
  refine HN.out.mono ?_
  rintro e w1 ⟨f, v, ve, hcyc, rfl, hown, howne, hB1⟩
  obtain ⟨C, hC⟩ : ∃ C, C = fl n (clf n f) := ⟨_, rfl⟩
  have hCl : C.length = n := by rw [hC, fl_len]
  have htr : (col s C).Right := by rw [hC]; exact col_right HR.out HNN.out
  rw [← hC] at hown howne ⊢
  obtain ⟨t, ht⟩ : ∃ t, t = col s C := ⟨_, rfl⟩
  rw [← ht] at htr howne ⊢
  obtain ⟨M, hM⟩ : ∃ M, M = (dist C).length := ⟨_, rfl⟩
  have htst : t.st = (M : Int) := by rw [ht, hM]; rfl
  have hMn : M ≤ n := by rw [hM, hC]; have := dist_le n (clf n f); exact this
  have hown' : w1.ownsRow (w.alloc (Obj.cells #[.int .i64 n, .int .i64 s.lb, .int .i64 s.s0, .slice a el c] 24)).heap.size 3 1 v C.length (C.flatMap encI) := by rw [hCl]; exact hown
  obtain ⟨ca, cc, cb, rfl, _, _, hcs, hcb⟩ := slAt_own lenI hown'
  obtain ⟨ea, ec, eb, rfl, _, _, hes, _⟩ := slAt_own lenE howne
  rw [hCl] at hcb hown ⊢
  have hnorm : t.norm = t := by
    have h1 : nf ltE t.es = t.es := by rw [ht]; exact nf_of_srt stoE (col_srt s C)
    unfold Lts.norm; rw [h1]
  have hB1' := HB0.out.trans (hB1.mono (by simp))
  have hBe := bAlloc (Below.refl w1.heap.size w1) (Obj.cells #[.int .i64 t.st, .int .i64 t.lb, .int .i64 t.s0, .slice ea t.es.length ec] 24)
  have hN := new_ok (c := ec) htr ((HG.out.below hB1').below hBe) (hes.below hBe (Nat.le_refl _))
  rw [hnorm] at hN
  have hX1 := (hB1.block w.heap.size (by simp)).trans HX0.out
  have hC1 := heap_alloc_new w1 (Obj.cells #[.int .i64 t.st, .int .i64 t.lb, .int .i64 t.s0, .slice ea t.es.length ec] 24)
  have hX1' := (Below.heap_alloc w1 (Obj.cells #[.int .i64 t.st, .int .i64 t.lb, .int .i64 t.s0, .slice ea t.es.length ec] 24) w.heap.size (by have := hB1.size; simp at this; omega)).trans hX1
  have hcs1 := hcs.below hBe (Nat.le_refl _)
  have hs1 := hB1.size
  simp at hs1
  rw [htst] at hN hC1 hX1' hBe hcs1 ⊢
  obtain ⟨tl, htl⟩ : ∃ tl, tl = t.es.length := ⟨_, rfl⟩
  rw [← htl] at hN hC1 hX1' hBe hcs1 ⊢
  have HN := Lib.hid hN; have HC1 := Lib.hid hC1; have HX1 := Lib.hid hX1'; have HB1 := Lib.hid (hB1'.trans (hBe.mono (by omega))); have HCS := Lib.hid hcs1; have HCB := Lib.hid hcb
  have HCYC := Lib.hid hcyc; have HC := Lib.hid hC; have HT := Lib.hid ht; have HM := Lib.hid hM; have HTR := Lib.hid htr; have HCL := Lib.hid hCl; have HTST := Lib.hid htst
  clear hN hC1 hX1 hX1' hBe hcs1 hcs hcb hcyc hC ht hM htr hCl htst hnorm hB1 hB1' hown hown' howne hes htl HX0 HB0 HG
  go_wp2_with fail
  refine HN.out.mono ?_
  rintro e w2 ⟨gb, rfl, hgr, hB2, _⟩
  have hs2 := hB2.size
  simp at hs2
  have hX2 := (hB2.block w.heap.size (by simp; omega)).trans HX1.out
  have hC2 := (hB2.block w1.heap.size (by simp)).trans HC1.out
  have hcs2 := HCS.out.below hB2 (Nat.le_refl _)
  have hBw := HB1.out.trans (hB2.mono (by simp; omega))
  have HX2 := Lib.hid hX2; have HC2 := Lib.hid hC2; have HCS2 := Lib.hid hcs2; have HBW := Lib.hid hBw; have HGR := Lib.hid hgr
  clear hX2 hC2 hcs2 hBw hgr hB2 HN HCS HX1 HC1 HB1
  obtain ⟨x0, x1, x2, x3, x4⟩ := sysC HX2.out
  obtain ⟨y0, y1, y2, y3, y4⟩ := sysC HC2.out
  clear x1 x2 x3 y1 y2 y3
  have hmk := run_make_row' (P := Tryz.prog) 32 49 (.slice none 0 0) 24 Tryz.underlying32 (by kernel_rfl) rfl .i64 .i64 M (by omega) (by omega)
  go_wp2_with fail
  obtain ⟨U, hU⟩ : ∃ U, U = w2.alloc (Obj.cells (madeCells #[.slice none 0 0] M) 49) := ⟨_, rfl⟩
  have hBU : Below w2.heap.size w2 U := by rw [hU]; exact bAlloc (Below.refl _ _) _
  have hUs : U.heap.size = w2.heap.size + 1 := by rw [hU]; simp
  have hOG : OG U U w2.heap.size M (fun k => memK C 0 (k : Int)) := by
    refine ⟨?_, Below.refl _ _, fun _ _ _ => rfl⟩
    have h := OwnRows.made (enc := encI) (k := 1) (e := 3) (T := 49) (w := w2) (n := M)
    rw [← hU, ← hUs] at h
    simpa [memK] using h
  have hcsu := HCS2.out.below hBU (Nat.le_refl _)
  have hcbn : 0 < C.length → cb ≠ w2.heap.size := fun h => by have := HCS2.out.lt h; omega
  have HOG := Lib.hid hOG; have HBU := Lib.hid hBU; have HCSU := Lib.hid hcsu; have HCBN := Lib.hid hcbn; have HUS := Lib.hid hUs
  rw [← hU]
  clear hmk hOG hBU hcsu hcbn hU x0 x4 y0 y4
  go_loopw [37] (fun v37 wr => ∃ k : Nat, v37 = .int .i64 k ∧ k ≤ n ∧ OG U wr w2.heap.size M (fun i => memK C k (i : Int)))
    (fun v37 _ => n - (intOf v37).toNat)
  case atStart => exact ⟨0, rfl, Nat.zero_le _, HOG.out⟩
  case round =>
    obtain ⟨k, rfl, hk, hog⟩ := hrel
    have HO := Lib.hid hog
    have hszr := hog.bel.size
    clear hog HOG
    by_cases hlt : k < n
    · have hx : C[k]? = some (clf n f k) := by rw [HC.out]; exact fl_get _ hlt
      have hrng := clf_rng (f := f) hlt
      have hdl := dist_clf_len n f
      rw [← HC.out, ← HM.out] at hdl
      obtain ⟨cn, hcn⟩ := Int.eq_ofNat_of_zero_le hrng.1
      have hcnM : cn < M := by omega
      rw [hcn] at hx
      have hslr := HO.out.sl HCSU.out HCBN.out
      have hClen := HCL.out
      obtain rfl := hslr.ad (by omega)
      have e0 := hslr.ci hx
      have gl := hslr.lt (by omega)
      simp only [Nat.zero_add] at e0
      have hki : (k : Int) < (n : Int) := by omega
      have hcM2 : (cn : Int) < (M : Int) := by omega
      obtain ⟨v, hcv, hfv, hown, hgo⟩ := HO.out.open hcnM
      have hml := memK_len C k (cn : Int)
      have HX := Lib.hid hx; have HOWN := Lib.hid hown; have HGO := Lib.hid hgo
      have hobr : w2.heap.size < wr.heap.size := by have := HUS.out; omega
      obtain ⟨ml, hmll⟩ : ∃ ml, ml = (memK C k (cn : Int)).length := ⟨_, rfl⟩
      rw [← hmll] at hml HOWN
      have HML := Lib.hid hmll
      clear hx hrng hdl hcn hslr hown hgo hClen hmll
      go_wp2_with (at_builtin; go_must (refine wpList_lies rfl _ _ _ rfl rowI (by simp; omega) (by rfl) (HOWN.out.alloc _) ⟨wr.heap.size, 0, none⟩ 1 1 [.int .i64 k] rfl rfl (cells1 (by simp [go_sem])) (by simp [Value.oneCell']) (by decide) (by omega) (by unfold maxLen; omega) (wr.heap.size + 1) (by simp) ?_); intro g cap w8 hown8 hg8 hat8 hlt8; have kp := HGO.out _ w8 g cap (memK C k (cn : Int) ++ [(k : Int)]) ((Below.refl _ _).alloc (Nat.le_refl _) _) (by rw [List.length_append, List.flatMap_append, ← HML.out]; exact hown8) hg8 (hat8.imp_right (fun e => by omega)); have kp0 := kp.1; have kp1 := kp.2.1; have KP := Lib.hid kp.2.2; clear kp)
      have hstep : ∀ i : Nat, (if i = cn then memK C k (cn : Int) ++ [(k : Int)] else memK C k (i : Int)) = memK C (k + 1) (i : Int) := fun i => by
        rw [memK_snoc HX.out]
        by_cases hi : i = cn
        · subst hi; rw [if_pos rfl, if_pos rfl]
        · rw [if_neg hi, if_neg (by omega)]
      have H1 := Lib.hid (KP.out.congr hstep)
      rw [List.length_append, ← HML.out] at H1
      clear hstep KP hown8 hg8 hat8 hlt8 kp0 kp1
      go_roundw
      case rel => exact ⟨k + 1, by go_num, by omega, H1.out⟩
      case measure => simp [intOf]; omega
    · have hkn : n = k := by omega
      subst hkn
      obtain ⟨wm, hwm⟩ : ∃ wm, wm = wr := ⟨_, rfl⟩
      subst hwm
      have hb2m := HBU.out.trans (HO.out.bel.mono (Nat.le_refl _))
      have hxm := (hb2m.block w.heap.size (by omega)).trans HX2.out
      have hcm := (hb2m.block w1.heap.size (by omega)).trans HC2.out
      have hgm := HGR.out.below hb2m
      obtain ⟨x0, x1, x2, x3, x4⟩ := sysC hxm
      obtain ⟨y0, y1, y2, y3, y4⟩ := sysC hcm
      have hsm := hb2m.size
      have HXM := Lib.hid hxm; have HGM := Lib.hid hgm; have HBM := Lib.hid (HBW.out.trans (hb2m.mono (by omega)))
      have hmk := run_make_row' (P := Tryz.prog) 49 3 (.int .i64 0) 8 Tryz.underlying49 (by kernel_rfl) rfl .i64 .i64 M (by omega) (by omega)
      clear x1 x2 x3 y1 y2 y3 hb2m hxm hcm hgm HX2 HC2 HGR HBW HCSU HCBN
      go_wp2_with fail
      have hOQ : OQ wm (wm.alloc (Obj.cells (madeCells #[.int .i64 0] M) 3)) M (fun j => if j < 0 then (Wt t [] j : Int) else 0) := by
        refine ⟨?_, bAlloc (Below.refl _ _) _⟩
        simpa using World.rowIs_made wm (.int .i64 0) M 3
      have HOQ := Lib.hid hOQ
      clear hmk hOQ x0 x4 y0 y4
      go_loopw [58] (fun v58 wr => ∃ k : Nat, v58 = .int .i64 k ∧ k ≤ M ∧ OQ wm wr M (fun j => if j < k then (Wt t [] j : Int) else 0))
        (fun v58 _ => M - (intOf v58).toNat)
      case atStart => exact ⟨0, rfl, Nat.zero_le _, HOQ.out⟩
      case round =>
        obtain ⟨k, rfl, hk, hoq⟩ := hrel
        have HQ := Lib.hid hoq
        have hszr := hoq.bel.size
        clear hoq HOQ
        by_cases hlt : k < M
        · have HBY := Lib.hid (getBy_any (HGM.out.below HQ.out.bel) (k : Int) 0)
          have hki : (k : Int) < (M : Int) := by omega
          go_wp2_with fail
          refine HBY.out.mono ?_
          rintro e w6 ⟨v6, rfl, hown6, hB6⟩
          obtain ⟨sa, sc, sb, rfl, _, _, _, _⟩ := slAt_own lenI hown6
          have hq6 := HQ.out.call hB6
          have hwt := outs_len_taus HTR.out (show Srt ltE t.es by rw [HT.out]; exact col_srt s C) k
          rw [hwt]
          have g1 := hq6.rows.cell hlt
          have g2 := hq6.rows.frozen k
          have gl := hq6.rows.lt
          have HQ6 := Lib.hid hq6
          obtain ⟨wk, hwk⟩ : ∃ wk, wk = Wt t [] k := ⟨_, rfl⟩
          rw [← hwk]
          have HWK := Lib.hid hwk
          clear hown6 hB6 hq6 hwt hwk HBY
          go_wp2_with fail
          have h7 : OQ wm (w6.setCell ⟨wm.heap.size, k, none⟩ (.int .i64 wk)) M (fun j => if j < k + 1 then (Wt t [] j : Int) else 0) := (HQ6.out.set k wk).congr (fun j _ => by
            by_cases e : j = k
            · subst e; rw [if_pos rfl, if_pos (by omega), HWK.out]
            · rw [if_neg e]
              by_cases e2 : j < k
              · rw [if_pos e2, if_pos (by omega)]
              · rw [if_neg e2, if_neg (by omega)])
          have H7 := Lib.hid h7
          clear h7 g1 g2 gl
          go_roundw
          case rel => exact ⟨k + 1, by go_num, by omega, H7.out⟩
          case measure => simp [intOf]; omega
        · have hkM : M = k := by omega
          subst hkM
          obtain ⟨wt, hwt⟩ : ∃ wt, wt = wr := ⟨_, rfl⟩
          subst hwt
          have hq : OQ wm wt M (W8 t []) := HQ.out.congr (fun j hj => by rw [if_pos hj]; unfold W8; rw [if_neg (by simp)])
          have hx3 := (hq.bel.block w.heap.size (by omega)).trans HXM.out
          have HQ3 := Lib.hid hq
          clear hq HQ
          obtain ⟨x0, x1, x2, x3, x4⟩ := sysC hx3
          have HX3 := Lib.hid hx3
          clear hx3 x1 x2 x3
          go_wp2_with fail
          have hdl := dist_clf_len n f
          rw [← HC.out, ← HM.out] at hdl
          have hin : ∀ x, x < n → ∃ k : Nat, k < M ∧ C[x]? = some (k : Int) := fun x hx => by
            rw [hdl, HC.out]; exact cls_in hx
          have hon : ∀ k, k < M → ∃ x, x < n ∧ C[x]? = some (k : Int) := fun k hk => by
            rw [hdl] at hk; rw [HC.out]; exact cls_onto hk
          have HIN := Lib.hid hin; have HON := Lib.hid hon
          have HSRT : RowKit.Hid (Srt ltE t.es) := Lib.hid (by rw [HT.out]; exact col_srt s C)
          have HF : RowKit.Hid (∀ x y, tau t x y → rank n f y < rank n f x) := Lib.hid (fun x y hxy => rank_down HR.out HNN.out HCYC.out (by rw [← HC.out, ← HT.out]; exact hxy))
          clear hdl hin hon x0 x4
          go_loopw [14] (fun v14 wr => ∃ (D : List Nat) (L : List Int), L = (D.flatMap fun k : Nat => memK C n (k : Int)) ∧ OrdL t M D ∧ OQ wm wr M (W8 t D) ∧ wr.ownsRow (wm.heap.size + 1) 3 1 v14 L.length (L.flatMap encI))
            (fun v14 _ => match v14 with | .slice _ l _ => n - l | _ => 0)
          case atStart => exact ⟨[], [], rfl, .nil, HQ3.out, World.ownsRow_nil _ _ _ _⟩
          case round =>
            obtain ⟨D, L, hL, hD, hq, hown⟩ := hrel
            obtain ⟨oa, oc, ob, rfl, _, _, _, _⟩ := slAt_own lenI hown
            have hLn : L.length ≤ n := by rw [hL]; exact flat_le C n hD.nodup
            have hszr := hq.bel.size
            have hxr := (hq.bel.block w.heap.size (by omega)).trans HXM.out
            obtain ⟨x0, x1, x2, x3, x4⟩ := sysC hxr
            have HL := Lib.hid hL; have HD := Lib.hid hD; have HQ := Lib.hid hq; have HOWN := Lib.hid hown
            obtain ⟨ll, hll⟩ : ∃ ll, ll = L.length := ⟨_, rfl⟩
            rw [← hll] at hLn HOWN ⊢
            have HLL := Lib.hid hll
            clear hL hD hq hown hxr x1 x2 x3 hll HQ3
            by_cases hlt : ll < n
            · have hlt2 : (ll : Int) < (n : Int) := by omega
              obtain ⟨x, hxM, hxD⟩ := flat_left HIN.out (D := D) (by rw [← HL.out, ← HLL.out]; exact hlt)
              obtain ⟨K, hK⟩ := next_ex HTR.out HSRT.out HTST.out HF.out hxM hxD
              have hKM := hK.lt
              have HK := Lib.hid hK
              clear hxM hxD hK
              go_wp2_with fail
              obtain ⟨wq, hwq⟩ : ∃ wq, wq = wr := ⟨_, rfl⟩
              subst hwq
              have gl := HQ.out.rows.lt
              go_loopw [15] (fun v15 wx => ∃ j : Nat, wq = wx ∧ v15 = .int .i64 j ∧ j ≤ K) (fun v15 _ => K - (intOf v15).toNat)
              case atStart => exact ⟨0, rfl, rfl, Nat.zero_le _⟩
              case round =>
                obtain ⟨j, rfl, rfl, hj⟩ := hrel
                have hjM : j < M := by omega
                have hjM2 : (j : Int) < (M : Int) := by omega
                have g1 := HQ.out.rows.cell hjM
                obtain ⟨q, hq⟩ : ∃ q, q = W8 t D j := ⟨_, rfl⟩
                rw [← hq] at g1
                by_cases hjK : j < K
                · have hb : (q != 0) = true := by
                    have h1 := HK.out.first j hjK
                    have h2 := W8_zero (t := t) D j
                    rw [bne_iff_ne, hq]
                    intro e
                    obtain ⟨h3, h4⟩ := h2.1 e
                    rcases h1 with h1 | h1
                    · exact h3 h1
                    · exact h1 h4
                  clear hq
                  go_wp2_with fail
                  go_roundw
                  case rel => exact ⟨j + 1, by trivial, by go_num, by omega⟩
                  case measure => simp [intOf]; omega
                · have hjj : K = j := by omega
                  subst hjj
                  have hb : (q != 0) = false := by
                    rw [hq, (W8_zero (t := t) D K).2 ⟨HK.out.new, HK.out.all⟩]; rfl
                  have g2 := HQ.out.rows.frozen K
                  clear hq
                  obtain ⟨vK, hv1, hv2, hv3⟩ := HO.out.rows.at hjM
                  obtain ⟨ma, mc, mb, rfl, _, _, hms, hmb⟩ := slAt_own lenI hv3
                  have hmp := memK_pos (HON.out K hjM)
                  obtain ⟨ML, hML⟩ : ∃ ML, ML = memK C n (K : Int) := ⟨_, rfl⟩
                  rw [← hML] at hv1 hms hmb hmp
                  have hmle : ML.length ≤ n := by rw [hML]; exact memK_len C n _
                  obtain rfl := hms.ad hmp
                  have hqs : OQ wm (wq.setCell ⟨wm.heap.size, K, none⟩ (.int .i64 (-1))) M (W9 t D K []) := (HQ.out.set K (-1)).congr (fun j _ => (W9_nil D K j).symm)
                  have hms2 := hms.below hqs.bel (Nat.le_refl _)
                  have hvm := (World.cell?_of_block (a := ⟨w2.heap.size, K, none⟩) (hqs.bel.block w2.heap.size (by omega))).trans hv1
                  have hown2 : (wq.setCell ⟨wm.heap.size, K, none⟩ (.int .i64 (-1))).ownsRow (wm.heap.size + 1) 3 1 (.slice oa ll oc) ll (L.flatMap encI) := own_set1 HOWN.out (p := ⟨wm.heap.size, K, none⟩) (fun g hg => by have := (HOWN.out.lt g hg).1; show g ≠ wm.heap.size; omega) _
                  obtain ⟨wz, hwz⟩ : ∃ wz, wz = wq.setCell ⟨wm.heap.size, K, none⟩ (.int .i64 (-1)) := ⟨_, rfl⟩
                  have hszz : wz.heap.size = wq.heap.size := by rw [hwz, size_setCell]
                  have HQS := Lib.hid hqs; have HMS := Lib.hid hms2; have HVM := Lib.hid hvm; have HOWN2 := Lib.hid hown2
                  have HML := Lib.hid hML
                  clear hv1 hv2 hv3 hms hqs hms2 hvm hown2 hmb hML
                  go_upto_region 23 with fail
                  rw [← hwz] at HQS HMS HVM HOWN2 ⊢
                  have gz := HQS.out.rows.lt
                  have hvm := HVM.out
                  obtain ⟨hn1', hn2', hn3'⟩ := flat_slice (ad := ⟨mb, 0, none⟩) lenI (fun x u hu => by simp [encI] at hu; subst hu; rfl) HMS.out rfl
                  have HN1 := Lib.hid hn1'; have HN2 := Lib.hid hn2'; have HN3 := Lib.hid hn3'
                  have hob2 : w2.heap.size < wz.heap.size := by omega
                  obtain ⟨ml, hml⟩ : ∃ ml, ml = ML.length := ⟨_, rfl⟩
                  rw [← hml] at hvm HN3 hmp hmle
                  have HMLL := Lib.hid hml
                  clear hwz hn1' hn2' hn3' hml g1 g2
                  go_upto_region 24 with (at_builtin; go_must (refine wpList_lies rfl _ _ _ rfl rowI gz (by rfl) HOWN2.out ⟨mb, 0, none⟩ ml mc (ML.flatMap encI) rfl HN3.out HN1.out HN2.out hmp (by omega) (by unfold maxLen; omega) wz.heap.size rfl ?_); intro g cap w8 hown8 hg8 hat8 hlt8)
                  have hq8 := HQS.out.grown HOWN2.out hg8
                  have hown9 : w8.ownsRow (wm.heap.size + 1) 3 1 (.slice (some ⟨g, 0, none⟩) (ll + ml) cap) (L ++ ML).length ((L ++ ML).flatMap encI) := by
                    rw [List.length_append, List.flatMap_append, ← HLL.out, ← HMLL.out]; exact hown8
                  have hfr := getFrom_any (HGM.out.below hq8.bel) (K : Int) 0
                  have HQ8 := Lib.hid hq8; have HOWN9 := Lib.hid hown9; have HFR := Lib.hid hfr
                  clear hq8 hown9 hfr hown8 hg8 hat8 hvm HN1 HN2 HN3 HQS HOWN2 HVM HMS
                  go_wp2_with fail
                  refine HFR.out.mono ?_
                  rintro e w9 ⟨v9, rfl, hown10, hB9⟩
                  obtain ⟨fa, fc, fb, rfl, _, _, hfs, hfb⟩ := slAt_own lenI hown10
                  obtain ⟨F, hF⟩ : ∃ F, F = withL 0 (t.ins (K : Int)) := ⟨_, rfl⟩
                  rw [← hF] at hfs hfb ⊢
                  have hFl : F.length ≤ 10000 := by
                    rw [hF]; unfold withL; rw [List.length_map]
                    have h1 := List.length_filter_le (fun s : S => s.1 == 0) (t.ins (K : Int))
                    have h2 := ins_len HTR.out (K : Int)
                    omega
                  have hq9 := HQ8.out.call hB9
                  have hown11 := own_below HOWN9.out hB9
                  have HQ9 := Lib.hid hq9; have HOWN11 := Lib.hid hown11; have HFS := Lib.hid hfs; have HFB := Lib.hid hfb; have HFF := Lib.hid hF
                  clear hq9 hown11 hfs hfb hF hown10 hB9
                  go_wp2_with fail
                  obtain ⟨Fl, hFl2⟩ : ∃ Fl, Fl = F.length := ⟨_, rfl⟩
                  rw [← hFl2] at hFl ⊢
                  have HFL := Lib.hid hFl2
                  clear hFl2
                  go_loopw [94] (fun v94 wx => ∃ m : Nat, v94 = .int .i64 m ∧ m ≤ Fl ∧ OQ wm wx M (W9 t D K (F.take m)) ∧ (∀ b, b ≠ wm.heap.size → wx.heap[b]? = w9.heap[b]?) ∧ wx.heap.size = w9.heap.size)
                    (fun v94 _ => Fl - (intOf v94).toNat)
                  case atStart => exact ⟨0, rfl, Nat.zero_le _, by rw [List.take_zero]; exact HQ9.out, fun _ _ => rfl, rfl⟩
                  case round =>
                    obtain ⟨m, rfl, hm, hq, hoth, hsz⟩ := hrel
                    have HQX := Lib.hid hq; have HOTH := Lib.hid hoth
                    have gq := hq.rows.lt
                    have g9 := HQ9.out.rows.lt
                    clear hq hoth
                    by_cases hmF : m < Fl
                    · obtain ⟨x, hx⟩ := getElem?_of_lt (xs := F) (i := m) (by have := HFL.out; omega)
                      obtain ⟨up, rfl, hup⟩ := from_rng HTR.out HTST.out (k := K) (x := x) (by rw [← HFF.out]; exact List.mem_of_getElem? hx)
                      have hfp : 0 < F.length := by have := HFL.out; omega
                      have hfsx : SlAt encI 1 wr fa fb 0 F := ⟨HFS.out.ad, fun hp => by rw [hsz]; exact HFS.out.lt hp, fun i y hy j u hu => by
                        rw [World.cell?_of_block (w := w9) (a := ⟨fb, 0 + i * 1 + j, none⟩) (HOTH.out fb (by have := HFB.out hfp; have := HQ8.out.rows.lt; omega))]
                        exact HFS.out.cell i y hy j u hu⟩
                      obtain rfl := hfsx.ad hfp
                      have e0 := hfsx.ci hx
                      have fl := hfsx.lt hfp
                      simp only [Nat.zero_add] at e0
                      have g1 := HQX.out.rows.cell hup
                      have g2 := HQX.out.rows.frozen up
                      have hr9 := W9_rng HTR.out D K (F.take m) (by rw [List.length_take]; have := HFL.out; omega) up
                      obtain ⟨q, hq⟩ : ∃ q, q = W9 t D K (F.take m) up := ⟨_, rfl⟩
                      rw [← hq] at g1 hr9
                      have hmF2 : (m : Int) < (Fl : Int) := by omega
                      have hup2 : (up : Int) < (M : Int) := by omega
                      obtain ⟨hq1, hq2⟩ := hr9
                      have h7 : OQ wm (wr.setCell ⟨wm.heap.size, up, none⟩ (.int .i64 (q - 1))) M (W9 t D K (F.take (m + 1))) := (HQX.out.set up (q - 1)).congr (fun j _ => by
                        rw [take_snoc hx, W9_snoc, hq])
                      have H7 := Lib.hid h7
                      clear h7 hq hfsx hx
                      go_wp2_with fail
                      go_roundw
                      case rel => exact ⟨m + 1, by go_num, by omega, H7.out, fun b hb => by rw [Below.heap_setCell _ _ _ _ hb]; exact HOTH.out b hb, by rw [size_setCell]; exact hsz⟩
                      case measure => simp [intOf]; omega
                    · have hmm : Fl = m := by omega
                      subst hmm
                      have hqe : OQ wm wr M (W8 t (D ++ [K])) := HQX.out.congr (fun j _ => by
                        rw [HFL.out, List.take_length, HFF.out]
                        exact W9_end HTR.out HSRT.out HD.out HK.out j)
                      have howne := own_block HOWN11.out (w' := wr) (fun g hg => HOTH.out g (by have := (HOWN11.out.lt g hg).1; omega))
                      have HQE := Lib.hid hqe; have HOE := Lib.hid howne
                      have HLE : RowKit.Hid (L ++ ML = ((D ++ [K]).flatMap fun k : Nat => memK C n (k : Int))) := Lib.hid (by
                        rw [List.flatMap_append, HL.out, HML.out]; simp)
                      clear hqe howne HQX HOTH
                      go_wp2_with fail
                      go_roundw
                      case rel => exact ⟨D ++ [K], L ++ ML, HLE.out, .step HD.out HK.out, HQE.out, HOE.out⟩
                      case measure =>
                        have h1 := flat_le C n (OrdL.step HD.out HK.out).nodup
                        rw [← HLE.out, List.length_append, ← HLL.out, ← HMLL.out] at h1
                        simp
                        omega
            · have hge : n ≤ (D.flatMap fun k : Nat => memK C n (k : Int)).length := by rw [← HL.out, ← HLL.out]; omega
              have hlle : n = ll := by omega
              subst hlle
              have hall := flat_done HON.out HD.out.nodup hge
              have hbelow : Below w.heap.size w wr := HBM.out.trans (HQ.out.bel.mono (by omega))
              have hownf : wr.ownsRow w.heap.size 3 1 (.slice oa n oc) n ((D.flatMap fun k : Nat => memK C n (k : Int)).flatMap encI) := by rw [← HL.out]; exact own_mono HOWN.out (by omega)
              have HALL := Lib.hid hall; have HBF := Lib.hid hbelow; have HOF := Lib.hid hownf
              clear hall hbelow hownf hge
              go_wp2_with fail
              go_ret2
              exact ⟨f, D, .slice oa n oc, HCYC.out, by rw [← HC.out, ← HT.out, ← HM.out]; exact HD.out, by rw [← HC.out, ← HM.out]; exact HALL.out, rfl, by rw [← HC.out]; exact HOF.out, HBF.out⟩
end Go.Proofs.YtkmljelgogcobaaGreatDoor

namespace Go.Proofs.YtkmljelgogcobaaGreatDoor
open Go.RowKit Pl

namespace Pl
def aliveT : Lts := ⟨4, 2, 0, [(0, 0, 1), (1, 0, 0), (1, 1, 2), (2, 0, 3)]⟩
theorem aliveT_right : aliveT.Right := ⟨by unfold HeadBad aliveT; simp, by decide⟩
def aliveG (x : Nat) : Int := if x ≤ 1 then 2 else if x = 2 then 1 else 0
theorem aliveT_tau {x y : Nat} : tau aliveT x y ↔ (x = 0 ∧ y = 1) ∨ (x = 1 ∧ y = 0) ∨ (x = 2 ∧ y = 3) := by
  unfold tau aliveT
  simp
  omega
theorem aliveT_cyc : Cyc aliveT 4 aliveG where
  down x y h := by
    rcases aliveT_tau.1 h with ⟨rfl, rfl⟩ | ⟨rfl, rfl⟩ | ⟨rfl, rfl⟩ <;> decide
  same x y hx hy := by
    have hd : ∀ x y, TR aliveT x y → aliveG y ≤ aliveG x := by
      intro x y h
      induction h with
      | refl => omega
      | tail _ ht ih =>
        refine Int.le_trans ?_ ih
        rcases aliveT_tau.1 ht with ⟨rfl, rfl⟩ | ⟨rfl, rfl⟩ | ⟨rfl, rfl⟩ <;> decide
    constructor
    · intro h
      by_cases e : x = y
      · subst e; exact ⟨.refl, .refl⟩
      · have h01 : TR aliveT 0 1 := TR.refl.tail (aliveT_tau.2 (.inl ⟨rfl, rfl⟩))
        have h10 : TR aliveT 1 0 := TR.refl.tail (aliveT_tau.2 (.inr (.inl ⟨rfl, rfl⟩)))
        have : (x = 0 ∧ y = 1) ∨ (x = 1 ∧ y = 0) := by
          unfold aliveG at h
          by_cases a1 : x ≤ 1 <;> by_cases a2 : y ≤ 1 <;> by_cases a3 : x = 2 <;> by_cases a4 : y = 2 <;> simp [a1, a2, a3, a4] at h <;> omega
        rcases this with ⟨rfl, rfl⟩ | ⟨rfl, rfl⟩
        · exact ⟨h01, h10⟩
        · exact ⟨h10, h01⟩
    · rintro ⟨h1, h2⟩
      have := hd _ _ h1; have := hd _ _ h2
      omega
theorem aliveT_cls {f : Nat → Int} (h : Cyc aliveT 4 f) : fl 4 (clf 4 f) = [0, 0, 1, 2] := by
  rw [← canon_fl, h.unique aliveT_cyc]
  decide
def aliveC : Lts := ⟨3, 2, 0, [(0, 1, 1), (1, 0, 2)]⟩
theorem aliveT_col : col aliveT [0, 0, 1, 2] = aliveC := by
  unfold aliveC
  have h1 : (dist [0, 0, 1, 2]).length = 3 := by decide
  have h2 : nf ltE (colE [0, 0, 1, 2] aliveT.es) = [(0, 1, 1), (1, 0, 2)] := by decide
  unfold col
  rw [h1, h2]
  rfl
theorem aliveC_ord : OrdL aliveC 3 [0, 2, 1] :=
  .step (D := [0, 2]) (.step (D := [0]) (.step (D := []) .nil ⟨by decide, by decide, by decide, by decide⟩) ⟨by decide, by decide, by decide, by decide⟩) ⟨by decide, by decide, by decide, by decide⟩
theorem aliveC_D {D : List Nat} (h : OrdL aliveC 3 D) (ha : ∀ k, k < 3 → k ∈ D) : D = [0, 2, 1] := by
  refine h.unique aliveC_ord ?_
  have h1 := nodup_sub D (List.range 3) h.nodup (fun x hx => List.mem_range.2 (h.rng x hx))
  have h2 := nodup_sub (List.range 3) D List.nodup_range (fun x hx => ha x (List.mem_range.1 hx))
  simp at h1 h2 ⊢
  omega
end Pl
theorem aliveT_list : ([0, 2, 1].flatMap fun k : Nat => memK [0, 0, 1, 2] 4 (k : Int)) = [0, 1, 3, 2] := by decide

set_option maxRecDepth 100000 in
theorem alive11_any {w : World} {p : Addr} (hG : GErr 0 p w) :
    Calls Tryz.prog 26 #[] w fun e w' => e = .returned (.bool true) ∧ Below w.heap.size w w' := by
  have HG := Lib.hid hG
  clear hG
  go_enter Tryz.func26, Tryz.ntmps26
  go_wp2_with fail
  have hS : SlAt encE 3 (w.alloc (.cells #[.int .i64 0, .int .i64 0, .int .i64 1, .int .i64 1, .int .i64 0, .int .i64 0, .int .i64 1, .int .i64 1, .int .i64 2, .int .i64 2, .int .i64 0, .int .i64 3] 79)) (some ⟨w.heap.size, 0, none⟩) w.heap.size 0 aliveT.es := by
    have h := World.ownsRow_lit (e := 79) (size := 3) (base := w.heap.size) w #[.int .i64 0, .int .i64 0, .int .i64 1, .int .i64 1, .int .i64 0, .int .i64 0, .int .i64 1, .int .i64 1, .int .i64 2, .int .i64 2, .int .i64 0, .int .i64 3] 4 (Nat.le_refl _) (by unfold maxLen; omega) rfl
    obtain ⟨a, c, b, hv, _, _, hs, _⟩ := slAt_own (xs := aliveT.es) lenE h
    simp only [Value.slice.injEq] at hv
    obtain ⟨rfl, _, _⟩ := hv
    have := hs.ad (by decide)
    simp at this
    subst this
    exact hs
  have hB0 := ((Below.refl w.heap.size w).alloc (Nat.le_refl _) (.cells #[.int .i64 0, .int .i64 0, .int .i64 1, .int .i64 1, .int .i64 0, .int .i64 0, .int .i64 1, .int .i64 1, .int .i64 2, .int .i64 2, .int .i64 0, .int .i64 3] 79)).alloc (by simp) (.cells #[.int .i64 4, .int .i64 2, .int .i64 0, .slice (some ⟨w.heap.size, 0, none⟩) 4 4] 24)
  have hx0 := heap_alloc_new (w.alloc (.cells #[.int .i64 0, .int .i64 0, .int .i64 1, .int .i64 1, .int .i64 0, .int .i64 0, .int .i64 1, .int .i64 1, .int .i64 2, .int .i64 2, .int .i64 0, .int .i64 3] 79)) (.cells #[.int .i64 4, .int .i64 2, .int .i64 0, .slice (some ⟨w.heap.size, 0, none⟩) 4 4] 24)
  rw [show (w.alloc (.cells #[.int .i64 0, .int .i64 0, .int .i64 1, .int .i64 1, .int .i64 0, .int .i64 0, .int .i64 1, .int .i64 1, .int .i64 2, .int .i64 2, .int .i64 0, .int .i64 3] 79)).heap.size = w.heap.size + 1 by simp] at hx0
  have hS1 := hS.alloc (.cells #[.int .i64 4, .int .i64 2, .int .i64 0, .slice (some ⟨w.heap.size, 0, none⟩) 4 4] 24)
  refine (cyclesYes_any (s := aliveT) (n := 4) (c := 4) aliveT_right rfl (HG.out.below hB0) hS1).mono ?_
  rintro e w1 ⟨f, v, hcyc, rfl, hown, hB1⟩
  rw [aliveT_cls hcyc] at hown
  obtain ⟨la, lc, lb, rfl, _, _, hls, hlb⟩ := slAt_own (xs := [0, 0, 1, 2]) lenI hown
  obtain rfl := hls.ad (by decide)
  have l3 := hls.ci (i := 3) (x := 2) rfl
  have ll := hls.lt (by decide)
  simp only [Nat.zero_add] at l3
  have hx1 := (hB1.block (w.heap.size + 1) (by simp)).trans hx0
  have hB1' := hB0.trans (hB1.mono (by simp; omega))
  have hS2 := hS1.below hB1 (Nat.le_refl _)
  have HB1 := Lib.hid hB1'; have HS := Lib.hid hS2; have HG1 := Lib.hid (HG.out.below hB1'); have HLS := Lib.hid hls
  obtain ⟨x0, x1, x2, x3, x4⟩ := sysC hx1
  clear hB0 hx0 hS hS1 hcyc hown hlb hx1 hB1 hB1' hS2 HG hls
  go_wp2_with fail
  refine (orderYes_any (s := aliveT) (n := 4) (c := 4) aliveT_right rfl HG1.out HS.out).mono ?_
  rintro e w2 ⟨f, D, v, hcyc, hD, hall, rfl, hown, hB2⟩
  rw [aliveT_cls hcyc] at hown hD hall
  rw [aliveT_col, show (dist [0, 0, 1, 2]).length = 3 by decide] at hD
  rw [show (dist [0, 0, 1, 2]).length = 3 by decide] at hall
  rw [aliveC_D hD hall, aliveT_list] at hown
  obtain ⟨ma, mc, mb, rfl, _, _, hms, hmb⟩ := slAt_own (xs := [0, 1, 3, 2]) lenI hown
  obtain rfl := hms.ad (by decide)
  have m2 := hms.ci (i := 2) (x := 3) rfl
  have ml := hms.lt (by decide)
  have hls2 := HLS.out.below hB2 (Nat.le_refl _)
  have k3 := hls2.ci (i := 3) (x := 2) rfl
  have kl := hls2.lt (by decide)
  simp only [Nat.zero_add] at m2 k3
  have HB2 := Lib.hid (HB1.out.trans (hB2.mono HB1.out.size))
  clear hcyc hD hall hown hB2 hmb hms hls2 l3 ll x0 x1 x2 x3 x4 HLS HS HG1 HB1
  go_wp2_with fail
  go_ret
  exact ⟨rfl, HB2.out⟩
end Go.Proofs.YtkmljelgogcobaaGreatDoor

namespace Go.Proofs.YtkmljelgogcobaaGreatDoor
open Go.RowKit Pl

def marksE : List E := [(-7, 0, 0), (-7, 1, 0), (-7, 2, 0)]
/-- Edges lent: behind them three marks, all in a block of its own. -/
structure LentS (w : World) (base g cap : Nat) (es : List E) : Prop where
  own : w.ownsRow base 79 3 (.slice (some ⟨g, 0, none⟩) (es.length + 3) cap) (es.length + 3) ((es ++ marksE).flatMap encE)
theorem LentS.below {w w' : World} {base g cap : Nat} {es : List E} (h : LentS w base g cap es) (hB : Below w.heap.size w w') : LentS w' base g cap es := ⟨own_below h.own hB⟩
theorem LentS.all {w : World} {base g cap : Nat} {es : List E} (h : LentS w base g cap es) : SlAt encE 3 w (some ⟨g, 0, none⟩) g 0 (es ++ marksE) ∧ es.length + 3 ≤ cap ∧ cap ≤ maxLen ∧ base ≤ g := by
  have h2 : w.ownsRow base 79 3 (.slice (some ⟨g, 0, none⟩) (es.length + 3) cap) (es ++ marksE).length ((es ++ marksE).flatMap encE) := by
    rw [List.length_append]; exact h.own
  obtain ⟨a, c, b, hv, h3, h4, h5, h6⟩ := slAt_own lenE h2
  simp only [Value.slice.injEq] at hv
  obtain ⟨rfl, _, rfl⟩ := hv
  have h7 := h5.ad (by simp [marksE])
  simp at h7
  subst h7
  exact ⟨h5, by simpa [marksE] using h3, h4, h6 (by simp [marksE])⟩
theorem SlAt.preE {α : Type} {enc : α → List Value} {k : Nat} {w : World} {a : Option Addr} {b off : Nat} {xs ys : List α} (h : SlAt enc k w a b off (xs ++ ys)) : SlAt enc k w a b off xs :=
  ⟨fun hp => h.ad (by simp; omega), fun hp => h.lt (by simp; omega), fun i x hx => h.cell i x (by rw [List.getElem?_append_left (List.getElem?_eq_some_iff.1 hx).1]; exact hx)⟩
theorem oneEL (x : E) : ∀ u ∈ encE x, u.oneCell' = true := by intro u hu; simp [encE] at hu; rcases hu with rfl | rfl | rfl <;> rfl

set_option maxRecDepth 100000 in
set_option maxHeartbeats 4000000 in
theorem lent_any {s : Lts} {a : Option Addr} {b off c : Nat} {w : World} (hS : SlAt encE 3 w a b off s.es) (hl : s.es.length ≤ 1000000) :
    Calls Tryz.prog 27 #[.agg #[.int .i64 s.st, .int .i64 s.lb, .int .i64 s.s0, .slice a s.es.length c]] w fun e w' => ∃ g cap, e = .returned (.agg #[.int .i64 s.st, .int .i64 s.lb, .int .i64 s.s0, .slice (some ⟨g, 0, none⟩) s.es.length cap]) ∧ LentS w' w.heap.size g cap s.es ∧ Below w.heap.size w w' := by
  obtain ⟨W, hW⟩ : ∃ W, W = (w.alloc (.cells #[.int .i64 s.st, .int .i64 s.lb, .int .i64 s.s0, .slice a s.es.length c] 24)).alloc (.cells #[.int .i64 0, .int .i64 0, .int .i64 0, .slice none 0 0] 24) := ⟨_, rfl⟩
  have hB0 : Below w.heap.size w W := by rw [hW]; exact ((Below.refl _ _).alloc (Nat.le_refl _) _).alloc (by simp) _
  have h1 : W.heap[w.heap.size]? = some (.cells #[.int .i64 s.st, .int .i64 s.lb, .int .i64 s.s0, .slice a s.es.length c] 24 (0, 0)) := by
    rw [hW, Below.heap_alloc _ _ _ (by simp)]; exact heap_alloc_new w _
  have h2 : W.heap[w.heap.size + 1]? = some (.cells #[.int .i64 0, .int .i64 0, .int .i64 0, .slice none 0 0] 24 (0, 0)) := by
    have h := heap_alloc_new (w.alloc (.cells #[.int .i64 s.st, .int .i64 s.lb, .int .i64 s.s0, .slice a s.es.length c] 24)) (.cells #[.int .i64 0, .int .i64 0, .int .i64 0, .slice none 0 0] 24)
    rw [show (w.alloc (.cells #[.int .i64 s.st, .int .i64 s.lb, .int .i64 s.s0, .slice a s.es.length c] 24)).heap.size = w.heap.size + 1 by simp] at h
    rw [hW]; exact h
  have hSW := hS.below hB0 (Nat.le_refl _)
  obtain ⟨m, hm⟩ : ∃ m, m = s.es.length := ⟨_, rfl⟩
  rw [← hm] at hW h1 ⊢
  have HW := Lib.hid hW; have HB0 := Lib.hid hB0; have H1 := Lib.hid h1; have H2 := Lib.hid h2; have HM := Lib.hid hm; have HS := Lib.hid hSW
  have hmx : m ≤ 1000000 := by omega
  have hb1 : (0 + s.es.length) * 24 ≤ 140737488355328 := by omega
  have hb2 : 0 + s.es.length ≤ maxLen := by unfold maxLen; omega
  obtain ⟨x0, x1, x2, x3, x4⟩ := sysC h1
  clear hW hB0 h1 h2 hm hS hSW hl
  go_enter Tryz.func27, Tryz.ntmps27
  go_wp2_with (at_builtin; rw [← HW.out]; refine wpList_appS rfl (Operand.const (Value.slice none 0 0)) (Operand.tmp 6) _ rfl rowE (base := W.heap.size) (Nat.le_refl _) rfl (World.ownsRow_nil _ _ _ _) lenE oneEL HS.out (by rw [← HM.out]; rfl) hb1 hb2 ?_; intro v' w3 hown3 hg3; have HO3 := Lib.hid hown3; have hb3 := (Below.refl W.heap.size W).grown hg3 (Nat.le_refl _) (fun k hk => by cases hk); have HB3 := Lib.hid hb3; have hs3 := hb3.size; clear hown3 hg3 hb3)
  clear x0 x1 x2 x3 x4
  go_loopw [3, 4] (fun v3 v4 wr => ∃ i : Nat, v4 = .int .i64 i ∧ i ≤ 3 ∧ Below W.heap.size W wr ∧ wr.ownsRow W.heap.size 79 3 v3 (m + i) ((s.es ++ marksE.take i).flatMap encE)) (fun _ v4 _ => 3 - (intOf v4).toNat)
  case atStart => exact ⟨0, rfl, Nat.zero_le _, HB3.out, by have h := HO3.out; rw [Nat.zero_add, ← HM.out, List.nil_append] at h; simpa using h⟩
  case round =>
    obtain ⟨i, rfl, hi, hB, hown⟩ := hrel
    have HB := Lib.hid hB; have HO := Lib.hid hown
    have hs4 := hB.size
    clear hB hown HO3 HB3 hs3
    by_cases hlt : i < 3
    · have hiI : (i : Int) < 3 := by omega
      have hmk : marksE[i]? = some (-7, (i : Int), 0) := by
        have h3 : i = 0 ∨ i = 1 ∨ i = 2 := by omega
        rcases h3 with rfl | rfl | rfl <;> rfl
      have HMK := Lib.hid hmk
      clear hmk
      go_wp2_with (at_builtin; refine wpList_lies rfl _ _ 22 rfl rowE (base := W.heap.size) (by simp; omega) rfl (own_below HO.out ((Below.refl wr.heap.size wr).alloc (Nat.le_refl _) _)) ⟨wr.heap.size, 0, none⟩ 1 1 [.int .i64 (-7), .int .i64 i, .int .i64 0] rfl rfl (cells3 (by simp [go_sem]) (by simp [go_sem]) (by simp [go_sem])) (by simp [Value.oneCell']) (by omega) (by omega) (by unfold maxLen; omega) _ rfl ?_; intro g cap w6 hown6 hg6 _ _)
      have hb6 := (HB.out.alloc HB.out.size (.cells #[.int .i64 (-7), .int .i64 i, .int .i64 0] 79)).grown hg6 (by simp; omega) (fun k hk => (HO.out.lt k hk).1)
      have HB6 := Lib.hid hb6
      have HO6 : RowKit.Hid (w6.ownsRow W.heap.size 79 3 (.slice (some ⟨g, 0, none⟩) (m + i + 1) cap) (m + (i + 1)) ((s.es ++ marksE.take (i + 1)).flatMap encE)) := Lib.hid (by
        rw [take_snoc HMK.out, ← List.append_assoc, List.flatMap_append]
        simpa [encE, Nat.add_assoc] using hown6)
      clear hb6 hown6 hg6 HO HB
      go_roundw
      case rel => exact ⟨i + 1, by go_num, by omega, HB6.out, HO6.out⟩
      case measure => simp [intOf]; omega
    · obtain rfl : i = 3 := by omega
      have ho := HO.out
      rw [show marksE.take 3 = marksE from rfl] at ho
      rcases ho.2 with ⟨_, h0⟩ | ⟨g, cap, cur, hv, hg0, _, hnc, hcm, _⟩
      · omega
      subst hv
      have hcap2 : cap ≤ 9223372036854775807 := by unfold maxLen at hcm; omega
      have hx1 := (HB.out.block _ (Array.getElem?_eq_some_iff.1 H1.out).1).trans H1.out
      have hx2 := (HB.out.block _ (Array.getElem?_eq_some_iff.1 H2.out).1).trans H2.out
      obtain ⟨x0, x1, x2, x3, x4⟩ := sysC hx1
      obtain ⟨⟨y0, y1, y2, y3, y4⟩, z0, z1, z2, z3⟩ := sysZ hx2
      have xf : wr.frozen? ⟨w.heap.size, 3, none⟩ = false := by simp [World.frozen?, hx1]
      have HO2 := Lib.hid ho; have HB2 := Lib.hid (HB0.out.trans (HB.out.mono HB0.out.size)); have HX1 := Lib.hid hx1; have HX2 := Lib.hid hx2
      clear ho hg0 hcm hx1 hx2 HO HB
      go_wp2_with fail
      have hsW : W.heap.size = w.heap.size + 2 := by rw [HW.out]; simp
      have ho2 := HO2.out
      rw [hsW, HM.out] at ho2
      have hlt : w.heap.size + 2 ≤ g := ho2.lt g rfl |>.1
      refine bodyPost_ret (v := .agg #[.int .i64 s.st, .int .i64 s.lb, .int .i64 s.s0, .slice (some ⟨g, 0, none⟩) m cap]) (by simp [results, Tryz.results27, go_sem, y0, y1, y2, y3]) rfl ⟨g, cap, rfl, ⟨?_⟩, ?_⟩
      · refine own_blockR (own_mono ho2 (by omega)) (fun k hk => ?_)
        simp only [Value.ownBlock, Option.some.injEq] at hk
        subst hk
        rw [Below.heap_setCell _ _ _ _ (by show g ≠ w.heap.size + 1; omega), Below.heap_setCell _ _ _ _ (by show g ≠ w.heap.size + 1; omega), Below.heap_setCell _ _ _ _ (by show g ≠ w.heap.size + 1; omega), Below.heap_setCell _ _ _ _ (by show g ≠ w.heap.size + 1; omega), Below.heap_setCell _ _ _ _ (by show g ≠ w.heap.size; omega)]
      · exact ((((HB2.out.setCell (p := ⟨w.heap.size, 3, none⟩) (by simp) _).setCell (p := ⟨w.heap.size + 1, 0, none⟩) (by simp) _).setCell (p := ⟨w.heap.size + 1, 1, none⟩) (by simp) _).setCell (p := ⟨w.heap.size + 1, 2, none⟩) (by simp) _).setCell (p := ⟨w.heap.size + 1, 3, none⟩) (by simp) _

set_option maxRecDepth 100000 in
set_option maxHeartbeats 4000000 in
theorem stays_any {es : List E} {base g cap : Nat} {st lb s0 st' lb' s0' : Int} {a : Option Addr} {b off c : Nat} {w : World} (hL : LentS w base g cap es) (hS : SlAt encE 3 w a b off es) (hl : es.length ≤ 1000000) :
    Calls Tryz.prog 33 #[.agg #[.int .i64 st, .int .i64 lb, .int .i64 s0, .slice (some ⟨g, 0, none⟩) es.length cap], .agg #[.int .i64 st', .int .i64 lb', .int .i64 s0', .slice a es.length c]] w fun e w' => e = .returned (.bool true) ∧ Below w.heap.size w w' := by
  obtain ⟨h1, h2, h3, _⟩ := hL.all
  obtain ⟨W, hW⟩ : ∃ W, W = (w.alloc (.cells #[.int .i64 st, .int .i64 lb, .int .i64 s0, .slice (some ⟨g, 0, none⟩) es.length cap] 24)).alloc (.cells #[.int .i64 st', .int .i64 lb', .int .i64 s0', .slice a es.length c] 24) := ⟨_, rfl⟩
  have hB0 : Below w.heap.size w W := by rw [hW]; exact ((Below.refl _ _).alloc (Nat.le_refl _) _).alloc (by simp) _
  have k1 : W.heap[w.heap.size]? = some (.cells #[.int .i64 st, .int .i64 lb, .int .i64 s0, .slice (some ⟨g, 0, none⟩) es.length cap] 24 (0, 0)) := by
    rw [hW, Below.heap_alloc _ _ _ (by simp)]; exact heap_alloc_new w _
  have hsame := sameEdges_any (c1 := cap) (c2 := c) (SlAt.preE h1 |>.below hB0 (Nat.le_refl _)) (hS.below hB0 (Nat.le_refl _)) hl hl
  rw [show decide (es = es) = true by simp] at hsame
  have hcell : ∀ i, i < 3 → W.cell? ⟨g, (es.length + i) * 3, none⟩ = some (.int .i64 (-7)) ∧ W.cell? ⟨g, (es.length + i) * 3 + 1, none⟩ = some (.int .i64 i) ∧ W.cell? ⟨g, (es.length + i) * 3 + 2, none⟩ = some (.int .i64 0) := fun i hi => by
    have hx : (es ++ marksE)[es.length + i]? = some (-7, (i : Int), 0) := by
      rw [List.getElem?_append_right (by omega), Nat.add_sub_cancel_left]
      have h3 : i = 0 ∨ i = 1 ∨ i = 2 := by omega
      rcases h3 with rfl | rfl | rfl <;> rfl
    have hh := h1.below hB0 (Nat.le_refl _)
    have e0 := hh.cell _ _ hx 0 _ rfl
    have e1 := hh.cell _ _ hx 1 _ rfl
    have e2 := hh.cell _ _ hx 2 _ rfl
    rw [Nat.add_zero, Nat.zero_add] at e0
    rw [Nat.zero_add] at e1 e2
    exact ⟨e0, e1, e2⟩
  have hgl := World.block_lt_of_cell? _ _ (hcell 0 (by omega)).1
  obtain ⟨m, hm⟩ : ∃ m, m = es.length := ⟨_, rfl⟩
  rw [← hm] at hW k1 hsame hcell h2 hl ⊢
  unfold maxLen at h3
  have HW := Lib.hid hW; have HB0 := Lib.hid hB0; have HSA := Lib.hid hsame; have HCE := Lib.hid hcell; have HK := Lib.hid k1
  obtain ⟨x0, x1, x2, x3, x4⟩ := sysC k1
  clear hW hB0 hsame hcell hL hS h1 k1 hm
  have k2 : (0 : Int) ≤ (m : Int) + 3 := by omega
  have k3 : ((m : Int) + 3).toNat = m + 3 := by omega
  have k4 : (m : Int) + 3 ≤ (cap : Int) := by omega
  have hgE := guardE
  go_enter Tryz.func33, Tryz.ntmps33
  go_wp2_with fail
  rw [← HW.out]
  refine HSA.out.mono ?_
  rintro e w2 ⟨rfl, nq, rfl⟩
  clear HSA
  go_wp2_with fail
  go_loopw [6] (fun v6 wr => ∃ i : Nat, v6 = .int .i64 i ∧ i ≤ 3 ∧ wr = W.drewN nq) (fun v6 _ => 3 - (intOf v6).toNat)
  case atStart => exact ⟨0, rfl, Nat.zero_le _, rfl⟩
  case round =>
    obtain ⟨i, rfl, hi, rfl⟩ := hrel
    by_cases hlt : i < 3
    · have hiI : (i : Int) < 3 := by omega
      obtain ⟨e0, e1, e2⟩ := HCE.out i hlt
      have q1 : (0 : Int) ≤ (m : Int) + (i : Int) := by omega
      have q2 : ((m : Int) + (i : Int)).toNat = m + i := by omega
      have q3 : (m : Int) + (i : Int) < ((m + 3 : Nat) : Int) := by omega
      have hq := fun w => neqE (-7, (i : Int), 0) (-7, (i : Int), 0) w
      have hzz : decide (((-7 : Int), (i : Int), (0 : Int)) = (-7, (i : Int), 0)) = true := by simp
      rw [hzz] at hq
      simp only [Bool.not_true] at hq
      clear hzz
      go_wp2_with fail
      go_roundw
      case rel => exact ⟨i + 1, by go_num, by omega, by first | rfl | trivial⟩
      case measure => simp [intOf]; omega
    · obtain rfl : i = 3 := by omega
      go_wp2_with fail
      go_ret
      exact ⟨rfl, bdrew HB0.out⟩
end Go.Proofs.YtkmljelgogcobaaGreatDoor

namespace Go.Proofs.YtkmljelgogcobaaGreatDoor
open Go.RowKit Pl

theorem bad_any (l : ByteArray) (hl : l.size ≤ 1000) (k : Int) (w : World) : Calls Tryz.prog 119 #[.string l, .int .i64 k] w fun e w' => e = .returned (.agg #[.int .i64 k, .int .i64 0, .int .i64 0, .string (l ++ ⟨#[32]⟩)]) ∧ Below w.heap.size w w' := by
  have hz2 : ¬ 9223372036854775807 < l.size + 1 := by omega
  go_enter Tryz.func119, Tryz.ntmps119
  go_wp2_with fail
  refine bodyPost_ret (v := .agg #[.int .i64 k, .int .i64 0, .int .i64 0, .string (l ++ ⟨#[32]⟩)]) (by simp [results, Tryz.results119, go_sem]) rfl ⟨rfl, (Below.refl _ _).alloc (Nat.le_refl _) _⟩
end Go.Proofs.YtkmljelgogcobaaGreatDoor

namespace Go.Proofs.YtkmljelgogcobaaGreatDoor
open Go.RowKit Pl

set_option maxRecDepth 100000 in
set_option maxHeartbeats 1000000 in
theorem right_head (st lb s0 : Int) (a : Option Addr) (n c : Nat) (w : World) (h : HeadBad st lb s0 n) :
    Calls Tryz.prog 110 #[.agg #[.int .i64 st, .int .i64 lb, .int .i64 s0, .slice a n c]] w fun e w' => e = .returned (.bool false) ∧ Below w.heap.size w w' := by
  have key : (st < 0) ∨ (¬ st < 0 ∧ 1000 < st) ∨ (¬ st < 0 ∧ ¬ 1000 < st ∧ lb < 1) ∨ (¬ st < 0 ∧ ¬ 1000 < st ∧ ¬ lb < 1 ∧ 201 < lb) ∨ (¬ st < 0 ∧ ¬ 1000 < st ∧ ¬ lb < 1 ∧ ¬ 201 < lb ∧ (10000 : Int) < (n : Int)) ∨
      (¬ st < 0 ∧ ¬ 1000 < st ∧ ¬ lb < 1 ∧ ¬ 201 < lb ∧ ¬ (10000 : Int) < (n : Int) ∧ (st == 0) = true ∧ (s0 != 0) = true) ∨
      (¬ st < 0 ∧ ¬ 1000 < st ∧ ¬ lb < 1 ∧ ¬ 201 < lb ∧ ¬ (10000 : Int) < (n : Int) ∧ (st == 0) = false ∧ 0 < st ∧ s0 < 0) ∨
      (¬ st < 0 ∧ ¬ 1000 < st ∧ ¬ lb < 1 ∧ ¬ 201 < lb ∧ ¬ (10000 : Int) < (n : Int) ∧ (st == 0) = false ∧ 0 < st ∧ ¬ s0 < 0 ∧ st ≤ s0) := by
    unfold HeadBad at h
    simp only [beq_iff_eq, bne_iff_ne, beq_eq_false_iff_ne]
    omega
  clear h
  rcases key with h1 | ⟨h1, h2⟩ | ⟨h1, h2, h3⟩ | ⟨h1, h2, h3, h4⟩ | ⟨h1, h2, h3, h4, h5⟩ | ⟨h1, h2, h3, h4, h5, h6, h7⟩ | ⟨h1, h2, h3, h4, h5, h6, h7, h8⟩ | ⟨h1, h2, h3, h4, h5, h6, h7, h8, h9⟩
  all_goals
    go_enter Tryz.func110, Tryz.ntmps110
    go_wp2
    go_ret
    exact ⟨rfl, (Below.refl _ _).alloc (Nat.le_refl _) _⟩

set_option maxRecDepth 100000 in
set_option maxHeartbeats 2000000 in
theorem right_body {st lb s0 : Int} {xs : List E} (hh : ¬ HeadBad st lb s0 xs.length) {a : Option Addr} {b off c : Nat} {w : World} (hS : SlAt encE 3 w a b off xs) :
    Calls Tryz.prog 110 #[.agg #[.int .i64 st, .int .i64 lb, .int .i64 s0, .slice a xs.length c]] w fun e w' => e = .returned (.bool (xs.all fun x => !offB st lb x)) ∧ Below w.heap.size w w' := by
  unfold HeadBad at hh
  obtain ⟨h1, h2, h3, h4, h5, h6, h7⟩ : ¬ st < 0 ∧ ¬ 1000 < st ∧ ¬ lb < 1 ∧ ¬ 201 < lb ∧ ¬ s0 < 0 ∧ (s0 = 0 ∨ s0 < st) ∧ ¬ (10000 : Int) < (xs.length : Int) := by omega
  have key : ((st == 0) = true ∧ (s0 != 0) = false ∧ ¬ 0 < st) ∨ ((st == 0) = false ∧ 0 < st ∧ ¬ st ≤ s0) := by
    simp only [beq_iff_eq, bne_eq_false_iff_eq, beq_eq_false_iff_ne]
    omega
  have HS := Lib.hid hS
  clear hh h6 hS
  obtain ⟨C, hC⟩ : ∃ C, C = Obj.cells #[.int .i64 st, .int .i64 lb, .int .i64 s0, .slice a xs.length c] 24 := ⟨_, rfl⟩
  have HC := Lib.hid hC
  clear hC
  rcases key with ⟨k1, k2, k3⟩ | ⟨k1, k2, k3⟩
  · obtain rfl : st = 0 := by simpa using k1
    obtain rfl : s0 = 0 := by simpa using k2
    clear k1 k2 k3 h1 h2 h5
    go_enter Tryz.func110, Tryz.ntmps110
    go_wp2
    rw [← HC.out]
    go_loopw [3, 4] (fun i _ wr => ∃ k : Nat, k ≤ xs.length ∧ i = .int .i64 k ∧ (∀ j x, j < k → xs[j]? = some x → offB 0 lb x = false) ∧ Below (w.heap.size + 1) (w.alloc C) wr)
      (fun i _ _ => xs.length - (intOf i).toNat)
    case atStart => exact ⟨0, Nat.zero_le _, rfl, by intro j x hj; omega, Below.refl _ _⟩
    case round =>
      obtain ⟨k, hk, rfl, hz, hB⟩ := hrel
      have HZ := Lib.hid hz; clear hz
      have hsz : w.heap.size + 1 ≤ wr.heap.size := by simpa using hB.size
      have q0 : wr.heap[w.heap.size]? = some C := by
        rw [hB.block _ (by omega), heap_alloc_new]
      rw [HC.out] at q0
      have s0' : wr.cell? ⟨w.heap.size, 0, none⟩ = some (.int .i64 0) := by simp [World.cell?, q0]
      have s1' : wr.cell? ⟨w.heap.size, 1, none⟩ = some (.int .i64 lb) := by simp [World.cell?, q0]
      have s2' : wr.cell? ⟨w.heap.size, 2, none⟩ = some (.int .i64 0) := by simp [World.cell?, q0]
      have s3' : wr.cell? ⟨w.heap.size, 3, none⟩ = some (.slice a xs.length c) := by simp [World.cell?, q0]
      have hBw : Below w.heap.size w wr := ((Below.refl _ _).alloc (Nat.le_refl _) C).trans (hB.mono (by omega))
      have hltr : w.heap.size < wr.heap.size := by omega
      have HB := Lib.hid hB; have HBW := Lib.hid hBw
      clear q0 hB hBw
      by_cases hlt2 : k < xs.length
      · obtain ⟨x, hx⟩ := getElem?_of_lt hlt2
        have hS' := HS.out.below HBW.out (Nat.le_refl _)
        obtain rfl := hS'.ad (by omega)
        have c0 := hS'.e0 hx; have c1 := hS'.e1 hx; have c2 := hS'.e2 hx
        have hbl := hS'.lt (by omega)
        have hik : (k : Int) < (xs.length : Int) := by omega
        have HX := Lib.hid hx
        clear hx hS'
        obtain ⟨x1, x2, x3⟩ := x
        simp only at c0 c1 c2
        by_cases ho : offB 0 lb (x1, x2, x3) = true
        · have HO := Lib.hid ho
          have hall : xs.all (fun x => !offB 0 lb x) = false := by
            rw [List.all_eq_false]
            exact ⟨_, List.mem_of_getElem? HX.out, by simp [HO.out]⟩
          have HALL := Lib.hid hall
          have key2 : (x1 < 0) ∨ (¬ x1 < 0 ∧ 0 ≤ x1) := by
            simp only [offB, Bool.or_eq_true, decide_eq_true_eq] at ho
            omega
          clear ho hall
          rcases key2 with g1 | ⟨g1, g2⟩
          all_goals
            go_wp2
            go_ret
            exact ⟨ret_b (a := false) HALL.out.symm, ((HBW.out).alloc (by omega) _)⟩
        · exact absurd (by simp only [offB, Bool.or_eq_true, decide_eq_true_eq]; omega) ho
      · go_wp2
        go_ret
        have hall : xs.all (fun x => !offB 0 lb x) = true := by
          rw [List.all_eq_true]
          intro x hx
          obtain ⟨j, hj, rfl⟩ := List.getElem_of_mem hx
          simp [HZ.out j _ (by omega) (List.getElem?_eq_getElem hj)]
        exact ⟨ret_b (a := true) hall.symm, HBW.out⟩
  · go_enter Tryz.func110, Tryz.ntmps110
    go_wp2
    rw [← HC.out]
    go_loopw [3, 4] (fun i _ wr => ∃ k : Nat, k ≤ xs.length ∧ i = .int .i64 k ∧ (∀ j x, j < k → xs[j]? = some x → offB st lb x = false) ∧ Below (w.heap.size + 1) (w.alloc C) wr)
      (fun i _ _ => xs.length - (intOf i).toNat)
    case atStart => exact ⟨0, Nat.zero_le _, rfl, by intro j x hj; omega, Below.refl _ _⟩
    case round =>
      obtain ⟨k, hk, rfl, hz, hB⟩ := hrel
      have HZ := Lib.hid hz; clear hz
      have hsz : w.heap.size + 1 ≤ wr.heap.size := by simpa using hB.size
      have q0 : wr.heap[w.heap.size]? = some C := by
        rw [hB.block _ (by omega), heap_alloc_new]
      rw [HC.out] at q0
      have s0' : wr.cell? ⟨w.heap.size, 0, none⟩ = some (.int .i64 st) := by simp [World.cell?, q0]
      have s1' : wr.cell? ⟨w.heap.size, 1, none⟩ = some (.int .i64 lb) := by simp [World.cell?, q0]
      have s2' : wr.cell? ⟨w.heap.size, 2, none⟩ = some (.int .i64 s0) := by simp [World.cell?, q0]
      have s3' : wr.cell? ⟨w.heap.size, 3, none⟩ = some (.slice a xs.length c) := by simp [World.cell?, q0]
      have hBw : Below w.heap.size w wr := ((Below.refl _ _).alloc (Nat.le_refl _) C).trans (hB.mono (by omega))
      have hltr : w.heap.size < wr.heap.size := by omega
      have HB := Lib.hid hB; have HBW := Lib.hid hBw
      clear q0 hB hBw
      by_cases hlt2 : k < xs.length
      · obtain ⟨x, hx⟩ := getElem?_of_lt hlt2
        have hS' := HS.out.below HBW.out (Nat.le_refl _)
        obtain rfl := hS'.ad (by omega)
        have c0 := hS'.e0 hx; have c1 := hS'.e1 hx; have c2 := hS'.e2 hx
        have hbl := hS'.lt (by omega)
        have hik : (k : Int) < (xs.length : Int) := by omega
        have HX := Lib.hid hx
        clear hx hS'
        obtain ⟨x1, x2, x3⟩ := x
        simp only at c0 c1 c2
        by_cases ho : offB st lb (x1, x2, x3) = true
        · have HO := Lib.hid ho
          have hall : xs.all (fun x => !offB st lb x) = false := by
            rw [List.all_eq_false]
            exact ⟨_, List.mem_of_getElem? HX.out, by simp [HO.out]⟩
          have HALL := Lib.hid hall
          have key2 : (x1 < 0) ∨ (¬ x1 < 0 ∧ st ≤ x1) ∨ (¬ x1 < 0 ∧ ¬ st ≤ x1 ∧ x3 < 0) ∨ (¬ x1 < 0 ∧ ¬ st ≤ x1 ∧ ¬ x3 < 0 ∧ st ≤ x3) ∨ (¬ x1 < 0 ∧ ¬ st ≤ x1 ∧ ¬ x3 < 0 ∧ ¬ st ≤ x3 ∧ x2 < 0) ∨ (¬ x1 < 0 ∧ ¬ st ≤ x1 ∧ ¬ x3 < 0 ∧ ¬ st ≤ x3 ∧ ¬ x2 < 0 ∧ lb ≤ x2) := by
            simp only [offB, Bool.or_eq_true, decide_eq_true_eq] at ho
            omega
          clear ho hall
          rcases key2 with g1 | ⟨g1, g2⟩ | ⟨g1, g2, g3⟩ | ⟨g1, g2, g3, g4⟩ | ⟨g1, g2, g3, g4, g5⟩ | ⟨g1, g2, g3, g4, g5, g6⟩
          all_goals
            go_wp2
            go_ret
            exact ⟨ret_b (a := false) HALL.out.symm, ((HBW.out).alloc (by omega) _)⟩
        · have ho' : offB st lb (x1, x2, x3) = false := by simpa using ho
          have HO := Lib.hid ho'
          obtain ⟨g1, g2, g3, g4, g5, g6⟩ : ¬ x1 < 0 ∧ ¬ st ≤ x1 ∧ ¬ x3 < 0 ∧ ¬ st ≤ x3 ∧ ¬ x2 < 0 ∧ ¬ lb ≤ x2 := by
            simp only [offB, Bool.or_eq_true, decide_eq_true_eq] at ho
            omega
          clear ho ho'
          go_wp2
          go_roundw
          case rel => exact ⟨k + 1, by omega, by go_num, by
            intro j y hj hy
            by_cases hjk : j = k
            · subst hjk
              rw [HX.out] at hy
              simp at hy; subst hy
              exact HO.out
            · exact HZ.out j y (by omega) hy, HB.out.alloc (by omega) _⟩
          case measure => simp [intOf]; omega
      · go_wp2
        go_ret
        have hall : xs.all (fun x => !offB st lb x) = true := by
          rw [List.all_eq_true]
          intro x hx
          obtain ⟨j, hj, rfl⟩ := List.getElem_of_mem hx
          simp [HZ.out j _ (by omega) (List.getElem?_eq_getElem hj)]
        exact ⟨ret_b (a := true) hall.symm, HBW.out⟩

theorem right_yes {s : Lts} (h : s.Right) {a : Option Addr} {b off c : Nat} {w : World} (hS : SlAt encE 3 w a b off s.es) :
    Calls Tryz.prog 110 #[.agg #[.int .i64 s.st, .int .i64 s.lb, .int .i64 s.s0, .slice a s.es.length c]] w fun e w' => e = .returned (.bool true) ∧ Below w.heap.size w w' := by
  refine (right_body h.head hS).mono ?_
  rintro e w' ⟨rfl, hB⟩
  have : s.es.all (fun x => !offB s.st s.lb x) = true := by rw [List.all_eq_true]; intro x hx; simp [h.edges x hx]
  exact ⟨by rw [this], hB⟩
theorem right_no {s : Lts} (h : ¬ s.Right) {a : Option Addr} {b off c : Nat} {w : World} (hS : SlAt encE 3 w a b off s.es) :
    Calls Tryz.prog 110 #[.agg #[.int .i64 s.st, .int .i64 s.lb, .int .i64 s.s0, .slice a s.es.length c]] w fun e w' => e = .returned (.bool false) ∧ Below w.heap.size w w' := by
  by_cases hh : HeadBad s.st s.lb s.s0 s.es.length
  · exact right_head s.st s.lb s.s0 a s.es.length c w hh
  · refine (right_body hh hS).mono ?_
    rintro e w' ⟨rfl, hB⟩
    have : s.es.all (fun x => !offB s.st s.lb x) = false := by
      rw [Bool.eq_false_iff]; intro ha; rw [List.all_eq_true] at ha
      exact h ⟨hh, fun x hx => by simpa using ha x hx⟩
    exact ⟨by rw [this], hB⟩
end Go.Proofs.YtkmljelgogcobaaGreatDoor

namespace Go.Proofs.YtkmljelgogcobaaGreatDoor
open Go.RowKit Pl

theorem refOn_any (l x : ByteArray) (hl : l.size ≤ 1000) (hx : x.size ≤ 1000) {k : Int} (hk : k ≠ 0) (i j : Int) (w : World) : Calls Tryz.prog 111 #[.string l, .agg #[.int .i64 k, .int .i64 i, .int .i64 j, .string x]] w fun e w' => e = .returned (.agg #[.int .i64 k, .int .i64 i, .int .i64 j, .string (l ++ ⟨#[32]⟩ ++ x)]) ∧ Below w.heap.size w w' := by
  have hz1 : ¬ 9223372036854775807 < l.size + 1 := by omega
  have hz2 : ¬ 9223372036854775807 < l.size + 1 + x.size := by omega
  have hk1 : (k == 0) = false := by simp [hk]
  go_enter Tryz.func111, Tryz.ntmps111
  go_wp2_with fail
  refine bodyPost_ret (v := .agg #[.int .i64 k, .int .i64 i, .int .i64 j, .string (l ++ ⟨#[32]⟩ ++ x)]) (by simp [results, Tryz.results111, go_sem]) rfl ⟨rfl, ((Below.refl _ _).alloc (Nat.le_refl _) _).alloc (by simp) _⟩

theorem errC {w : World} {B : Nat} {x y z : Int} {u : ByteArray} (h : w.heap[B]? = some (.cells #[.int .i64 x, .int .i64 y, .int .i64 z, .string u] 66 (0, 0))) :
    (w.cell? ⟨B, 0, none⟩ = some (.int .i64 x) ∧ w.cell? ⟨B, 1, none⟩ = some (.int .i64 y) ∧ w.cell? ⟨B, 2, none⟩ = some (.int .i64 z) ∧ w.cell? ⟨B, 3, none⟩ = some (.string u)) ∧ (w.frozen? ⟨B, 0, none⟩ = false ∧ w.frozen? ⟨B, 1, none⟩ = false ∧ w.frozen? ⟨B, 2, none⟩ = false ∧ w.frozen? ⟨B, 3, none⟩ = false) ∧ B < w.heap.size := by
  refine ⟨⟨?_, ?_, ?_, ?_⟩, ⟨?_, ?_, ?_, ?_⟩, (Array.getElem?_eq_some_iff.1 h).1⟩ <;> simp [World.cell?, World.frozen?, h]
theorem errW (w : World) (o : Obj) : Below w.heap.size w ((w.alloc o).alloc (Obj.cells #[.int .i64 0, .int .i64 0, .int .i64 0, .string ⟨#[]⟩] 66)) ∧ ((w.alloc o).alloc (Obj.cells #[.int .i64 0, .int .i64 0, .int .i64 0, .string ⟨#[]⟩] 66)).heap[w.heap.size + 1]? = some (.cells #[.int .i64 0, .int .i64 0, .int .i64 0, .string ⟨#[]⟩] 66 (0, 0)) := by
  refine ⟨((Below.refl _ _).alloc (Nat.le_refl _) _).alloc (by simp) _, ?_⟩
  have h := heap_alloc_new (w.alloc o) (Obj.cells #[.int .i64 0, .int .i64 0, .int .i64 0, .string ⟨#[]⟩] 66)
  rw [show (w.alloc o).heap.size = w.heap.size + 1 by simp] at h
  exact h
theorem errS {w w' : World} (h : Below w.heap.size w w') (a b c d : Value) : Below w.heap.size w ((((w'.setCell ⟨w.heap.size + 1, 0, none⟩ a).setCell ⟨w.heap.size + 1, 1, none⟩ b).setCell ⟨w.heap.size + 1, 2, none⟩ c).setCell ⟨w.heap.size + 1, 3, none⟩ d) :=
  (((h.setCell (by show w.heap.size ≤ w.heap.size + 1; omega) _).setCell (by show w.heap.size ≤ w.heap.size + 1; omega) _).setCell (by show w.heap.size ≤ w.heap.size + 1; omega) _).setCell (by show w.heap.size ≤ w.heap.size + 1; omega) _

set_option maxRecDepth 100000 in
theorem refCheck_no {s : Lts} (h : ¬ s.Right) {a : Option Addr} {b off c : Nat} {w : World} (hS : SlAt encE 3 w a b off s.es) :
    Calls Tryz.prog 38 #[.agg #[.int .i64 s.st, .int .i64 s.lb, .int .i64 s.s0, .slice a s.es.length c]] w fun e w' => e = .returned (.agg #[.int .i64 14, .int .i64 0, .int .i64 0, .string (sysName ++ ⟨#[32]⟩)]) ∧ Below w.heap.size w w' := by
  have hbd := bad_any sysName (by decide) 14
  obtain ⟨el, hel⟩ : ∃ el, el = s.es.length := ⟨_, rfl⟩
  have hR : ∀ V, Below w.heap.size w V → _ := fun V (hV : Below w.heap.size w V) => right_no (c := c) h (hS.below hV (Nat.le_refl _))
  rw [← hel] at hR ⊢
  obtain ⟨hB0, hE0⟩ := errW w (Obj.cells #[.int .i64 s.st, .int .i64 s.lb, .int .i64 s.s0, .slice a el c] 24)
  have HR := Lib.hid (hR _ hB0); have HB0 := Lib.hid hB0; have HE0 := Lib.hid hE0
  unfold sysName at hbd ⊢
  clear hS h hel hR hB0 hE0
  go_enter Tryz.func38, Tryz.ntmps38
  go_wp2_with fail
  refine HR.out.mono ?_
  rintro e w2 ⟨rfl, hB2⟩
  have hx2 := (hB2.block (w.heap.size + 1) (by simp)).trans HE0.out
  have hb2 := HB0.out.trans (hB2.mono HB0.out.size)
  have HX2 := Lib.hid hx2; have HB2 := Lib.hid hb2
  clear hx2 hb2 hB2 HR HB0 HE0
  go_wp2_with fail
  refine (hbd _).mono ?_
  rintro e w3 ⟨rfl, hB3⟩
  have hx3 := (hB3.block _ (Array.getElem?_eq_some_iff.1 HX2.out).1).trans HX2.out
  have HB3 := Lib.hid (HB2.out.trans (hB3.mono HB2.out.size))
  obtain ⟨⟨z0, z1, z2, z3⟩, ⟨f0, f1, f2, f3⟩, zl⟩ := errC hx3
  clear hx3 hB3 HX2 HB2 hbd
  go_wp2_with fail
  refine bodyPost_ret (v := .agg #[.int .i64 14, .int .i64 0, .int .i64 0, .string (⟨#[115, 121, 115, 116, 101, 109]⟩ ++ ⟨#[32]⟩)]) (by simp [results, Tryz.results38, go_sem, z0, z1, z2, z3]) rfl ⟨rfl, errS HB3.out _ _ _ _⟩

set_option maxRecDepth 100000 in
theorem refHanded_no (l : ByteArray) (hl : l.size ≤ 900) {s : Lts} (h : ¬ s.Right) {a : Option Addr} {b off c : Nat} {w : World} (hS : SlAt encE 3 w a b off s.es) :
    Calls Tryz.prog 28 #[.string l, .agg #[.int .i64 s.st, .int .i64 s.lb, .int .i64 s.s0, .slice a s.es.length c]] w fun e w' => e = .returned (.agg #[.int .i64 14, .int .i64 0, .int .i64 0, .string (l ++ ⟨#[32]⟩ ++ sysName ++ ⟨#[32]⟩)]) ∧ Below w.heap.size w w' := by
  obtain ⟨hB0, hE0⟩ := errW w (Obj.cells #[.int .i64 s.st, .int .i64 s.lb, .int .i64 s.s0, .slice a s.es.length c] 24)
  have HCK := Lib.hid (refCheck_no (c := c) h (hS.below hB0 (Nat.le_refl _)))
  have hon := refOn_any l (sysName ++ ⟨#[32]⟩) (by omega) (by decide) (k := 14) (by decide) 0 0
  rw [← ByteArray.append_assoc] at hon
  obtain ⟨el, hel⟩ : ∃ el, el = s.es.length := ⟨_, rfl⟩
  rw [← hel] at HCK hB0 hE0 ⊢
  have HB0 := Lib.hid hB0; have HE0 := Lib.hid hE0
  obtain ⟨sx, hsx⟩ : ∃ sx, sx = sysName ++ ⟨#[32]⟩ := ⟨_, rfl⟩
  obtain ⟨rx, hrx⟩ : ∃ rx, rx = l ++ ⟨#[32]⟩ ++ sysName ++ ⟨#[32]⟩ := ⟨_, rfl⟩
  rw [← hsx] at HCK
  rw [← hrx] at hon ⊢
  rw [← hsx] at hon
  clear hS h hel hB0 hE0 hsx hrx
  go_enter Tryz.func28, Tryz.ntmps28
  go_wp2_with fail
  refine HCK.out.mono ?_
  rintro e w2 ⟨rfl, hB2⟩
  have hx2 := (hB2.block (w.heap.size + 1) (by simp)).trans HE0.out
  have hb2 := HB0.out.trans (hB2.mono HB0.out.size)
  have HX2 := Lib.hid hx2; have HB2 := Lib.hid hb2
  clear hx2 hb2 hB2 HCK HB0 HE0
  go_wp2_with fail
  refine (hon _).mono ?_
  rintro e w3 ⟨rfl, hB3⟩
  have hx3 := (hB3.block _ (Array.getElem?_eq_some_iff.1 HX2.out).1).trans HX2.out
  have HB3 := Lib.hid (HB2.out.trans (hB3.mono HB2.out.size))
  obtain ⟨⟨z0, z1, z2, z3⟩, ⟨f0, f1, f2, f3⟩, zl⟩ := errC hx3
  clear hx3 hB3 HX2 HB2 hon
  go_wp2_with fail
  refine bodyPost_ret (v := .agg #[.int .i64 14, .int .i64 0, .int .i64 0, .string rx]) (by simp [results, Tryz.results28, go_sem, z0, z1, z2, z3]) rfl ⟨rfl, errS HB3.out _ _ _ _⟩
end Go.Proofs.YtkmljelgogcobaaGreatDoor

namespace Go.Proofs.YtkmljelgogcobaaGreatDoor
open Go.RowKit Pl

set_option maxRecDepth 100000 in
theorem light9_any {s : Lts} {a : Option Addr} {b off c : Nat} {w : World} (hS : SlAt encE 3 w a b off s.es) :
    Calls Tryz.prog 25 #[.agg #[.int .i64 s.st, .int .i64 s.lb, .int .i64 s.s0, .slice a s.es.length c]] w fun e w' => ∃ bv : Bool, e = .returned (.bool bv) ∧ (bv = true → (s.st ≤ 200 ∧ s.es.length ≤ 1500) ∨ (¬ s.Right ∧ s.es.length ≤ 11000)) ∧ Below w.heap.size w w' := by
  obtain ⟨W, hW⟩ : ∃ W, W = w.alloc (Obj.cells #[.int .i64 s.st, .int .i64 s.lb, .int .i64 s.s0, .slice a s.es.length c] 24) := ⟨_, rfl⟩
  have hB0 : Below w.heap.size w W := by rw [hW]; exact (Below.refl w.heap.size w).alloc (Nat.le_refl _) _
  have hbx := heap_alloc_new w (Obj.cells #[.int .i64 s.st, .int .i64 s.lb, .int .i64 s.s0, .slice a s.es.length c] 24)
  rw [← hW] at hbx
  have hRY : s.Right → _ := fun h => right_yes (c := c) h (hS.below hB0 (Nat.le_refl _))
  have hRN : ¬ s.Right → _ := fun h => right_no (c := c) h (hS.below hB0 (Nat.le_refl _))
  obtain ⟨el, hel⟩ : ∃ el, el = s.es.length := ⟨_, rfl⟩
  rw [← hel] at hRY hRN hbx hW ⊢
  have HRY := Lib.hid hRY; have HRN := Lib.hid hRN; have HB0 := Lib.hid hB0; have HW := Lib.hid hW; have HBX := Lib.hid hbx
  obtain ⟨x0, x1, x2, x3, x4⟩ := sysC hbx
  clear hS hel hRY hRN hB0 hW hbx
  by_cases h1 : s.st ≤ 200
  · have e1 : decide (s.st ≤ 200) = true := by simp [h1]
    by_cases h2 : (el : Int) ≤ 1500
    · have e2 : decide ((el : Int) ≤ 1500) = true := by simp [h2]
      go_enter Tryz.func25, Tryz.ntmps25
      go_wp2_with fail
      rw [← HW.out]
      go_wp2_with fail
      go_ret
      exact ⟨_, rfl, fun _ => .inl ⟨h1, by omega⟩, HB0.out⟩
    · have e2 : decide ((el : Int) ≤ 1500) = false := by simp [h2]
      by_cases hr : s.Right
      · have HR := Lib.hid (HRY.out hr)
        clear HRY HRN
        go_enter Tryz.func25, Tryz.ntmps25
        go_wp2_with fail
        rw [← HW.out]
        go_wp2_with fail
        refine HR.out.mono ?_
        rintro e w2 ⟨rfl, hB2⟩
        obtain ⟨y0, y1, y2, y3, y4⟩ := sysC ((hB2.block w.heap.size x4).trans HBX.out)
        have HB2 := Lib.hid (HB0.out.trans (hB2.mono HB0.out.size))
        clear hB2 x0 x1 x2 x3 x4 HW HBX HB0 HR
        go_wp2_with fail
        go_ret
        exact ⟨_, rfl, fun h => by simp at h, HB2.out⟩
      · have HR := Lib.hid (HRN.out hr)
        clear HRY HRN
        by_cases h3 : (el : Int) ≤ 11000
        · have e3 : decide ((el : Int) ≤ 11000) = true := by simp [h3]
          go_enter Tryz.func25, Tryz.ntmps25
          go_wp2_with fail
          rw [← HW.out]
          go_wp2_with fail
          refine HR.out.mono ?_
          rintro e w2 ⟨rfl, hB2⟩
          obtain ⟨y0, y1, y2, y3, y4⟩ := sysC ((hB2.block w.heap.size x4).trans HBX.out)
          have HB2 := Lib.hid (HB0.out.trans (hB2.mono HB0.out.size))
          clear hB2 x0 x1 x2 x3 x4 HW HBX HB0 HR
          go_wp2_with fail
          go_ret
          exact ⟨_, rfl, fun _ => .inr ⟨hr, by omega⟩, HB2.out⟩
        · have e3 : decide ((el : Int) ≤ 11000) = false := by simp [h3]
          go_enter Tryz.func25, Tryz.ntmps25
          go_wp2_with fail
          rw [← HW.out]
          go_wp2_with fail
          refine HR.out.mono ?_
          rintro e w2 ⟨rfl, hB2⟩
          obtain ⟨y0, y1, y2, y3, y4⟩ := sysC ((hB2.block w.heap.size x4).trans HBX.out)
          have HB2 := Lib.hid (HB0.out.trans (hB2.mono HB0.out.size))
          clear hB2 x0 x1 x2 x3 x4 HW HBX HB0 HR
          go_wp2_with fail
          go_ret
          exact ⟨_, rfl, fun h => by simp at h, HB2.out⟩
  · have e1 : decide (s.st ≤ 200) = false := by simp [h1]
    by_cases hr : s.Right
    · have HR := Lib.hid (HRY.out hr)
      clear HRY HRN
      go_enter Tryz.func25, Tryz.ntmps25
      go_wp2_with fail
      rw [← HW.out]
      go_wp2_with fail
      refine HR.out.mono ?_
      rintro e w2 ⟨rfl, hB2⟩
      obtain ⟨y0, y1, y2, y3, y4⟩ := sysC ((hB2.block w.heap.size x4).trans HBX.out)
      have HB2 := Lib.hid (HB0.out.trans (hB2.mono HB0.out.size))
      clear hB2 x0 x1 x2 x3 x4 HW HBX HB0 HR
      go_wp2_with fail
      go_ret
      exact ⟨_, rfl, fun h => by simp at h, HB2.out⟩
    · have HR := Lib.hid (HRN.out hr)
      clear HRY HRN
      by_cases h3 : (el : Int) ≤ 11000
      · have e3 : decide ((el : Int) ≤ 11000) = true := by simp [h3]
        go_enter Tryz.func25, Tryz.ntmps25
        go_wp2_with fail
        rw [← HW.out]
        go_wp2_with fail
        refine HR.out.mono ?_
        rintro e w2 ⟨rfl, hB2⟩
        obtain ⟨y0, y1, y2, y3, y4⟩ := sysC ((hB2.block w.heap.size x4).trans HBX.out)
        have HB2 := Lib.hid (HB0.out.trans (hB2.mono HB0.out.size))
        clear hB2 x0 x1 x2 x3 x4 HW HBX HB0 HR
        go_wp2_with fail
        go_ret
        exact ⟨_, rfl, fun _ => .inr ⟨hr, by omega⟩, HB2.out⟩
      · have e3 : decide ((el : Int) ≤ 11000) = false := by simp [h3]
        go_enter Tryz.func25, Tryz.ntmps25
        go_wp2_with fail
        rw [← HW.out]
        go_wp2_with fail
        refine HR.out.mono ?_
        rintro e w2 ⟨rfl, hB2⟩
        obtain ⟨y0, y1, y2, y3, y4⟩ := sysC ((hB2.block w.heap.size x4).trans HBX.out)
        have HB2 := Lib.hid (HB0.out.trans (hB2.mono HB0.out.size))
        clear hB2 x0 x1 x2 x3 x4 HW HBX HB0 HR
        go_wp2_with fail
        go_ret
        exact ⟨_, rfl, fun h => by simp at h, HB2.out⟩

theorem refOn_zero (l : ByteArray) (w : World) : Calls Tryz.prog 111 #[.string l, .agg #[.int .i64 0, .int .i64 0, .int .i64 0, .string ⟨#[]⟩]] w fun e w' => e = .returned (.agg #[.int .i64 0, .int .i64 0, .int .i64 0, .string ⟨#[]⟩]) ∧ Below w.heap.size w w' := by
  go_enter Tryz.func111, Tryz.ntmps111
  go_wp2_with fail
  refine bodyPost_ret (v := .agg #[.int .i64 0, .int .i64 0, .int .i64 0, .string ⟨#[]⟩]) (by simp [results, Tryz.results111, go_sem]) rfl ⟨rfl, ((Below.refl _ _).alloc (Nat.le_refl _) _).alloc (by simp) _⟩

set_option maxRecDepth 100000 in
theorem refCheck_yes {s : Lts} (h : s.Right) {a : Option Addr} {b off c : Nat} {w : World} (hS : SlAt encE 3 w a b off s.es) :
    Calls Tryz.prog 38 #[.agg #[.int .i64 s.st, .int .i64 s.lb, .int .i64 s.s0, .slice a s.es.length c]] w fun e w' => e = .returned (.agg #[.int .i64 0, .int .i64 0, .int .i64 0, .string ⟨#[]⟩]) ∧ Below w.heap.size w w' := by
  obtain ⟨el, hel⟩ : ∃ el, el = s.es.length := ⟨_, rfl⟩
  have hR : ∀ V, Below w.heap.size w V → _ := fun V (hV : Below w.heap.size w V) => right_yes (c := c) h (hS.below hV (Nat.le_refl _))
  rw [← hel] at hR ⊢
  obtain ⟨hB0, hE0⟩ := errW w (Obj.cells #[.int .i64 s.st, .int .i64 s.lb, .int .i64 s.s0, .slice a el c] 24)
  have HR := Lib.hid (hR _ hB0); have HB0 := Lib.hid hB0; have HE0 := Lib.hid hE0
  clear hS h hel hR hB0 hE0
  go_enter Tryz.func38, Tryz.ntmps38
  go_wp2_with fail
  refine HR.out.mono ?_
  rintro e w2 ⟨rfl, hB2⟩
  have hx2 := (hB2.block (w.heap.size + 1) (by simp)).trans HE0.out
  have HB2 := Lib.hid (HB0.out.trans (hB2.mono HB0.out.size))
  obtain ⟨⟨z0, z1, z2, z3⟩, ⟨f0, f1, f2, f3⟩, zl⟩ := errC hx2
  clear hx2 hB2 HR HB0 HE0
  go_wp2_with fail
  refine bodyPost_ret (v := .agg #[.int .i64 0, .int .i64 0, .int .i64 0, .string ⟨#[]⟩]) (by simp [results, Tryz.results38, go_sem, z0, z1, z2, z3]) rfl ⟨rfl, errS HB2.out _ _ _ _⟩

set_option maxRecDepth 100000 in
theorem refHanded_yes (l : ByteArray) {s : Lts} (h : s.Right) {a : Option Addr} {b off c : Nat} {w : World} (hS : SlAt encE 3 w a b off s.es) :
    Calls Tryz.prog 28 #[.string l, .agg #[.int .i64 s.st, .int .i64 s.lb, .int .i64 s.s0, .slice a s.es.length c]] w fun e w' => e = .returned (.agg #[.int .i64 0, .int .i64 0, .int .i64 0, .string ⟨#[]⟩]) ∧ Below w.heap.size w w' := by
  obtain ⟨hB0, hE0⟩ := errW w (Obj.cells #[.int .i64 s.st, .int .i64 s.lb, .int .i64 s.s0, .slice a s.es.length c] 24)
  have HCK := Lib.hid (refCheck_yes (c := c) h (hS.below hB0 (Nat.le_refl _)))
  obtain ⟨el, hel⟩ : ∃ el, el = s.es.length := ⟨_, rfl⟩
  rw [← hel] at HCK hB0 hE0 ⊢
  have HB0 := Lib.hid hB0; have HE0 := Lib.hid hE0
  have HON := Lib.hid (refOn_zero l)
  clear hS h hel hB0 hE0
  go_enter Tryz.func28, Tryz.ntmps28
  go_wp2_with fail
  refine HCK.out.mono ?_
  rintro e w2 ⟨rfl, hB2⟩
  have hx2 := (hB2.block (w.heap.size + 1) (by simp)).trans HE0.out
  have hb2 := HB0.out.trans (hB2.mono HB0.out.size)
  have HX2 := Lib.hid hx2; have HB2 := Lib.hid hb2
  clear hx2 hb2 hB2 HCK HB0 HE0
  go_wp2_with fail
  refine (HON.out _).mono ?_
  rintro e w3 ⟨rfl, hB3⟩
  have hx3 := (hB3.block _ (Array.getElem?_eq_some_iff.1 HX2.out).1).trans HX2.out
  have HB3 := Lib.hid (HB2.out.trans (hB3.mono HB2.out.size))
  obtain ⟨⟨z0, z1, z2, z3⟩, ⟨f0, f1, f2, f3⟩, zl⟩ := errC hx3
  clear hx3 hB3 HX2 HB2 HON
  go_wp2_with fail
  refine bodyPost_ret (v := .agg #[.int .i64 0, .int .i64 0, .int .i64 0, .string ⟨#[]⟩]) (by simp [results, Tryz.results28, go_sem, z0, z1, z2, z3]) rfl ⟨rfl, errS HB3.out _ _ _ _⟩
end Go.Proofs.YtkmljelgogcobaaGreatDoor

namespace Go.Proofs.YtkmljelgogcobaaGreatDoor
open Go.RowKit Pl Go.Maps

/-- The world within the reference's Canon. -/
structure RC (w wr : World) (OB n : Nat) (f : Nat → Value) (v : Value) (seen : List Int) : Prop where
  below : Below w.heap.size w wr
  row : wr.rowIs OB 3 n f
  own : wr.ownsRow (OB + 1) 3 1 v seen.length (seen.flatMap encI)
  ob : w.heap.size ≤ OB

theorem RC.set {w wr : World} {OB n : Nat} {f : Nat → Value} {v : Value} {seen : List Int} (h : RC w wr OB n f v seen) (i : Nat) (x : Value) : RC w (wr.setCell ⟨OB, i, none⟩ x) OB n (fun j => if j = i then x else f j) v seen :=
  ⟨h.below.setCell h.ob _, h.row.set i _, ownsRow_setCell_below h.own (by show OB < OB + 1; omega) _, h.ob⟩
theorem RC.congr {w wr : World} {OB n : Nat} {f g : Nat → Value} {v : Value} {seen : List Int} (h : RC w wr OB n f v seen) (e : ∀ i, i < n → f i = g i) : RC w wr OB n g v seen :=
  ⟨h.below, h.row.congr e, h.own, h.ob⟩
theorem RC.call {w wr w' : World} {OB n : Nat} {f : Nat → Value} {v : Value} {seen : List Int} (h : RC w wr OB n f v seen) (hB : Below wr.heap.size wr w') : RC w w' OB n f v seen :=
  ⟨h.below.trans (hB.mono h.below.size), h.row.of_block (hB.block _ h.row.lt), own_below h.own hB, h.ob⟩
theorem RC.push {w wr w1 : World} {OB n : Nat} {f : Nat → Value} {v v' : Value} {seen ys : List Int} (h : RC w wr OB n f v seen) (hown : w1.ownsRow (OB + 1) 3 1 v' ys.length (ys.flatMap encI)) (hg : wr.grownBy w1 v.ownBlock) : RC w w1 OB n f v' ys :=
  ⟨h.below.grown hg h.below.size (fun k hk => by have := (h.own.lt k hk).1; have := h.ob; omega), h.row.of_block (hg.block _ h.row.lt (fun e => by have := (h.own.lt _ e.symm).1; omega)), hown, h.ob⟩

theorem RC.keepc {w wr w1 : World} {OB n : Nat} {f : Nat → Value} {v : Value} {seen : List Int} (h : RC w wr OB n f v seen) (hg : wr.grownBy w1 v.ownBlock) {k : Nat} (hk : k < n) :
    w1.cell? ⟨OB, k, none⟩ = some (f k) ∧ w1.frozen? ⟨OB, k, none⟩ = false ∧ OB < w1.heap.size := by
  have h2 : w1.rowIs OB 3 n f := h.row.of_block (hg.block _ h.row.lt (fun e => by have := (h.own.lt _ e.symm).1; omega))
  exact ⟨h2.cell hk, h2.frozen k, h2.lt⟩

theorem own_drewN {w : World} {base : Nat} {e : TypeId} {k n m : Nat} {v : Value} {xs : List Value} (h : w.ownsRow base e k v n xs) : (w.drewN m).ownsRow base e k v n xs := h

theorem cell_new1 {w : World} {x : Value} {T : TypeId} {g : Nat} (h : g = w.heap.size) : (w.alloc (.cells #[x] T)).cell? ⟨g, 0, none⟩ = some x := by subst h; simp [go_sem]

theorem idx_first : ∀ {l : List Int} {j : Nat} {x : Int}, (∀ i, i < j → l[i]? ≠ some x) → l[j]? = some x → l.idxOf x = j
  | [], j, x, _, h => by simp at h
  | y :: l, 0, x, _, h => by simp at h; subst h; simp
  | y :: l, j + 1, x, hn, h => by
    have h0 := hn 0 (by omega)
    have hb : (y == x) = false := by simpa using h0
    rw [List.idxOf_cons, hb, idx_first (j := j) (fun i hi => by have := hn (i + 1) (by omega); simpa using this) (by simpa using h)]; rfl
theorem not_mem_of {l : List Int} {x : Int} (h : ∀ i, i < l.length → l[i]? ≠ some x) : x ∉ l := by
  intro hx
  obtain ⟨i, hi⟩ := List.getElem?_of_mem hx
  exact h i (List.getElem?_eq_some_iff.1 hi).1 hi

set_option maxRecDepth 100000 in
set_option maxHeartbeats 2000000 in
theorem refCanon_any {w : World} {a : Option Addr} {b off c : Nat} {xs : List Int} (hS : SlAt encI 1 w a b off xs) (hn : xs.length ≤ 1000000) :
    Calls Tryz.prog 154 #[.slice a xs.length c] w fun e w' => ∃ v, e = .returned v ∧ w'.ownsRow w.heap.size 3 1 v xs.length ((canon xs).flatMap encI) ∧ Below w.heap.size w w' := by
  obtain ⟨n, hnn⟩ : ∃ n, n = xs.length := ⟨_, rfl⟩
  rw [← hnn] at hn ⊢
  have hmk := run_make_row' (P := Tryz.prog) 49 3 (.int .i64 0) 8 Tryz.underlying49 (by kernel_rfl) rfl .i64 .i64 n (by omega) (by omega)
  have HS := Lib.hid hS; have HNN := Lib.hid hnn
  clear hS hnn
  go_enter Tryz.func154, Tryz.ntmps154
  go_wp2_with fail
  have h0 : RC w (w.alloc (.cells (madeCells #[.int .i64 0] n) 3)) w.heap.size n (rowAtK xs 0) (.slice none 0 0) (dist (xs.take 0)) :=
    ⟨(Below.refl _ _).alloc (Nat.le_refl _) _, (World.rowIs_made w (.int .i64 0) n 3).congr (fun i _ => by simp [rowAtK]), ⟨rfl, .inl ⟨rfl, rfl⟩⟩, Nat.le_refl _⟩
  have H0 := Lib.hid h0
  clear h0 hmk
  go_loopw [4, 5, 6] (fun v4 v5 _ wr => ∃ (k : Nat) (aa : Option Addr) (cc : Nat), k ≤ n ∧ v5 = .int .i64 k ∧ v4 = .slice aa (dist (xs.take k)).length cc ∧ RC w wr w.heap.size n (rowAtK xs k) (.slice aa (dist (xs.take k)).length cc) (dist (xs.take k)))
    (fun _ v5 _ _ => n - (intOf v5).toNat)
  case atStart => exact ⟨0, none, 0, Nat.zero_le _, rfl, rfl, H0.out⟩
  case round =>
    obtain ⟨k, aa, cc, hk, rfl, rfl, hrc⟩ := hrel
    have HR := Lib.hid hrc
    clear hrc H0
    by_cases hlt : k < n
    · obtain ⟨x, hx⟩ := getElem?_of_lt (xs := xs) (i := k) (by have := HNN.out; omega)
      have hkn : (k : Int) < (n : Int) := by omega
      have HX := Lib.hid hx
      have hdl : (dist (xs.take k)).length ≤ k := by have := dist_len (xs.take k); simp at this; omega
      obtain ⟨m, hm⟩ : ∃ m, m = (dist (xs.take k)).length := ⟨_, rfl⟩
      rw [← hm] at hdl ⊢
      have HM := Lib.hid hm
      clear hx hm
      go_wp2_with fail
      go_loopw [6] (fun v6 w2 => ∃ j u : Nat, j ≤ m ∧ v6 = .int .i64 j ∧ (∀ i, i < j → (dist (xs.take k))[i]? ≠ some x) ∧ w2 = wr.drewN u)
        (fun v6 _ => m - (intOf v6).toNat)
      case atStart => exact ⟨0, 0, Nat.zero_le _, rfl, by intro i hi; omega, rfl⟩
      case round =>
        obtain ⟨j, u, hj, rfl, hne, rfl⟩ := hrel
        have HNE := Lib.hid hne
        clear hne
        have hS2 := HS.out.below HR.out.below (Nat.le_refl _)
        obtain rfl := hS2.ad (by have := HNN.out; omega)
        have hcx := hS2.ci HX.out
        have hct : wr.cell? ⟨w.heap.size, k, none⟩ = some (.int .i64 0) := by have := HR.out.row.cell hlt; simpa [rowAtK] using this
        have hft : wr.frozen? ⟨w.heap.size, k, none⟩ = false := HR.out.row.frozen k
        have hxb := hS2.lt (by have := HNN.out; omega)
        have hwl : w.heap.size < wr.heap.size := HR.out.row.lt
        clear hS2
        by_cases hjm : j < m
        · obtain ⟨ga, gc, g, hv, _, _, hsl, _⟩ := slAt_own lenI HR.out.own
          simp only [Value.slice.injEq] at hv
          obtain ⟨rfl, _, rfl⟩ := hv
          have hjd : j < (dist (xs.take k)).length := by rw [← HM.out]; exact hjm
          obtain rfl := hsl.ad (by omega)
          obtain ⟨y, hy⟩ := getElem?_of_lt hjd
          have hcy := hsl.ci hy
          simp only [Nat.zero_add] at hcy
          have hjm' : (j : Int) < (m : Int) := by omega
          have hjmd : decide ((j : Int) < (m : Int)) = true := by simp; omega
          have HY := Lib.hid hy
          clear hsl hy hjd
          by_cases hxy : y = x
          · have e1 : (y != x) = false := by simp [hxy]
            have e2 : (y == x) = true := by simp [hxy]
            have e3 : ((j : Int) == (m : Int)) = false := by simp; omega
            have HXY := Lib.hid hxy
            clear hxy
            go_wp2_with fail
            go_quiet (fail)
            go_wp2
            have hy2 := HY.out
            rw [HXY.out] at hy2
            have hix := idx_first HNE.out hy2
            have hin : x ∈ dist (xs.take k) := List.mem_of_getElem? hy2
            have hd : dist (xs.take (k + 1)) = dist (xs.take k) := by rw [take_snoc HX.out, dist_snoc]; unfold addN; rw [if_pos hin]
            have h1 := fun uu => ((HR.out.call (bdrew (n := uu) (Below.refl _ _))).set k (.int .i64 j)).congr (g := rowAtK xs (k + 1)) (fun i _ => by
              have := rowAtK_step HX.out i
              rw [hd, hix] at this
              exact this)
            have hml : m = (dist (xs.take (k + 1))).length := by rw [hd]; exact HM.out
            rw [← hd] at h1
            have H1 := Lib.hid h1
            have HD := Lib.hid hml
            clear h1 hix hin hd hy2 hml
            go_roundw
            case rel => exact ⟨k + 1, _, _, by omega, by go_num, by rw [HD.out], H1.out _⟩
            case measure => simp [intOf]; omega
          · have e1 : (y != x) = true := by simp [hxy]
            have e2 : (y == x) = false := by simp [hxy]
            have HXY := Lib.hid hxy
            clear hxy
            go_wp2_with fail
            go_quiet (fail)
            go_wp2
            go_roundw
            case rel => exact ⟨j + 1, _, by omega, by go_num, by
              intro i hi
              by_cases e : i = j
              · subst e; rw [HY.out]; intro h; exact HXY.out (by simpa using h)
              · exact HNE.out i (by omega), rfl⟩
            case measure => simp [intOf]; omega
        · obtain rfl : j = m := by omega
          have hjmd : decide ((j : Int) < (j : Int)) = false := by simp
          have e3 : ((j : Int) == (j : Int)) = true := by simp
          go_wp2_with fail
          go_quiet (fail)
          have hrj : ∀ uu, RC w ((wr.drewN uu).alloc (.cells #[.int .i64 x] 3)) w.heap.size n (rowAtK xs k) (.slice aa j cc) (dist (xs.take k)) := fun uu => by
            have h := HR.out; rw [← HM.out] at h; exact (h.call (bdrew (n := uu) (Below.refl _ _))).call ((Below.refl _ _).alloc (Nat.le_refl _) _)
          have hownj : ∀ uu, ((wr.drewN uu).alloc (.cells #[.int .i64 x] 3)).ownsRow (w.heap.size + 1) 3 1 (.slice aa j cc) j ((dist (xs.take k)).flatMap encI) := fun uu => by
            have h := (hrj uu).own; rw [← HM.out] at h; exact h
          have HRJ := Lib.hid hrj
          have HOJ := Lib.hid hownj
          have hbb : ∀ uu, w.heap.size + 1 ≤ ((wr.drewN uu).alloc (.cells #[.int .i64 x] 3)).heap.size := fun uu => by
            have h1 : wr.heap.size + 1 ≤ ((wr.drewN uu).alloc (.cells #[.int .i64 x] 3)).heap.size := by simp
            omega
          have HBB := Lib.hid hbb
          clear hownj hbb hrj
          go_wp2_with (at_builtin; go_must (refine wpList_app1 rfl _ _ _ rfl rowI (Below.refl _ _) (HBB.out _) rfl (HOJ.out _) ⟨wr.heap.size, 0, none⟩ 1 1 [.int .i64 x] rfl rfl (cells1 (cell_new1 rfl)) (by simp [Value.oneCell']) (by decide) (by omega) (by unfold maxLen; omega) ?_); intro g cap w1 hown1 _ hg1; have kp := RC.keepc (HRJ.out _) hg1 hlt; have kp0 := kp.1; have kp1 := kp.2.1; have kp2 := kp.2.2; clear kp)
          have hmem : x ∉ dist (xs.take k) := not_mem_of (fun i hi => HNE.out i (by have := HM.out; omega))
          have hd : dist (xs.take (k + 1)) = dist (xs.take k) ++ [x] := by rw [take_snoc HX.out, dist_snoc]; unfold addN; rw [if_neg hmem]
          have hix : (dist (xs.take (k + 1))).idxOf x = j := by rw [hd, List.idxOf_append, HM.out]; simp [hmem]
          have hlen : j + 1 = (dist (xs.take (k + 1))).length := by rw [hd, List.length_append, HM.out]; rfl
          have h1 := (RC.push (v' := .slice (some ⟨g, 0, none⟩) (j + 1) cap) (ys := dist (xs.take (k + 1))) (HRJ.out _) (by rw [← hlen, hd, List.flatMap_append]; exact hown1) hg1).set k (.int .i64 (j : Int))
          have h2 := h1.congr (g := rowAtK xs (k + 1)) (fun i _ => by
            have := rowAtK_step HX.out i
            rw [hix] at this
            exact this)
          have hlen2 := hlen
          rw [hlen] at h2
          have H2 := Lib.hid h2; have HL := Lib.hid hlen2
          clear hmem hd hix hlen h1 h2 hlen2 hown1 hg1 kp0 kp1 kp2
          go_roundw
          case rel => exact ⟨k + 1, some ⟨g, 0, none⟩, cap, by omega, by go_num, by rw [← HL.out], H2.out⟩
          case measure => simp [intOf]; omega
    · obtain rfl : k = n := by omega
      go_wp2
      go_ret
      refine ⟨_, rfl, own_rowIs HR.out.row (by rw [canon_len]; exact HNN.out.symm) ?_ (by unfold maxLen; omega) (Nat.le_refl _), HR.out.below⟩
      intro i x hx
      rw [canon_get] at hx
      obtain ⟨y, hy, rfl⟩ := Option.map_eq_some_iff.1 hx
      have hi := (List.getElem?_eq_some_iff.1 hy).1
      unfold rowAtK
      rw [if_pos (by have := HNN.out; omega), List.getD_eq_getElem?_getD, hy]; rfl
end Go.Proofs.YtkmljelgogcobaaGreatDoor

namespace Go.Proofs.YtkmljelgogcobaaGreatDoor
open Go.RowKit Pl Go.Maps

set_option maxRecDepth 100000 in
theorem refTogether_any {w : World} {a : Option Addr} {b off c : Nat} {xs : List Int} (hS : SlAt encI 1 w a b off xs) (hn : xs.length ≤ 1000000) :
    Calls Tryz.prog 117 #[.slice a xs.length c] w fun e w' => e = .returned (.int .i64 ((dist xs).length : Int)) ∧ Below w.heap.size w w' := by
  have hq := refCanon_any (c := c) hS hn
  have HQ := Lib.hid hq
  clear hS hq
  go_enter Tryz.func117, Tryz.ntmps117
  go_wp2_with fail
  refine HQ.out.mono ?_
  rintro e w1 ⟨v, rfl, hown, hB⟩
  rw [← canon_len xs] at hown
  obtain ⟨a1, c1, b1, rfl, _, _, h1, _⟩ := slAt_own lenI hown
  obtain ⟨n, hnn⟩ : ∃ n, n = (canon xs).length := ⟨_, rfl⟩
  rw [← hnn]
  have hn' : n ≤ 1000000 := by rw [hnn, canon_len]; exact hn
  have H1 := Lib.hid h1; have HB := Lib.hid hB; have HNN := Lib.hid hnn
  clear hown hB h1 HQ hn hnn
  go_wp2_with fail
  go_loopw [4, 5] (fun v4 v5 w2 => ∃ k : Nat, k ≤ n ∧ v5 = .int .i64 k ∧ v4 = .int .i64 (nUp xs k : Int) ∧ w2 = w1)
    (fun _ v5 _ => n - (intOf v5).toNat)
  case atStart => exact ⟨0, Nat.zero_le _, rfl, by simp [nUp, dist], rfl⟩
  case round =>
    obtain ⟨k, hk, rfl, rfl, rfl⟩ := hrel
    have hup := nUp_le xs k
    obtain ⟨m, hm⟩ : ∃ m, m = nUp xs k := ⟨_, rfl⟩
    rw [← hm] at hup ⊢
    have HM := Lib.hid hm
    clear hm
    by_cases hlt : k < n
    · obtain ⟨y, hy⟩ := getElem?_of_lt (xs := canon xs) (i := k) (by rw [← HNN.out]; exact hlt)
      obtain rfl := H1.out.ad (by rw [← HNN.out]; omega)
      have hc := H1.out.ci hy
      simp only [Nat.zero_add] at hc
      have hkn : (k : Int) < (n : Int) := by omega
      rw [canon_get] at hy
      obtain ⟨x, hx, rfl⟩ := Option.map_eq_some_iff.1 hy
      have hs := nUp_canon hx
      have hb : ((dist xs).idxOf x : Int) ≤ 1000000 := by
        have h1 := dist_len xs
        have h2 : (dist xs).idxOf x ≤ (dist xs).length := List.idxOf_le_length
        have h3 := HNN.out
        rw [canon_len] at h3
        omega
      obtain ⟨z, hz⟩ : ∃ z : Int, z = ((dist xs).idxOf x : Int) := ⟨_, rfl⟩
      have hz0 : 0 ≤ z := by omega
      rw [← hz] at hc hs hb
      rw [← HM.out] at hs
      have HS := Lib.hid hs
      clear hy hx hs hz
      by_cases hle : (m : Int) ≤ z
      · go_wp2
        go_roundw
        case rel => exact ⟨k + 1, by omega, by go_num, by have := HS.out; rw [if_pos hle] at this; rw [this], by first | rfl | trivial⟩
        case measure => simp [intOf]; omega
      · go_wp2
        go_roundw
        case rel => exact ⟨k + 1, by omega, by go_num, by have := HS.out; rw [if_neg hle] at this; rw [this], by first | rfl | trivial⟩
        case measure => simp [intOf]; omega
    · obtain rfl : k = n := by omega
      have hmm : m = (dist xs).length := by
        have h3 := HNN.out; rw [canon_len] at h3
        rw [HM.out]; unfold nUp; rw [List.take_of_length_le (by omega)]
      have HMM := Lib.hid hmm
      clear hmm
      go_wp2
      go_ret
      exact ⟨ret_i (a := (m : Int)) (by rw [HMM.out]), HB.out⟩

end Go.Proofs.YtkmljelgogcobaaGreatDoor
