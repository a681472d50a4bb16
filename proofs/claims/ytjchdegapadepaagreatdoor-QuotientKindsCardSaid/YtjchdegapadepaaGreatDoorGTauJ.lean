/-
  Lemmas.
-/
import Derived.Test.YtjchdegapadepaaGreatDoorTauI
import Derived.Test.YtjchdegapadepaaGreatDoorGPl6
import Derived.Test.YtjchdegapadepaaGreatDoorGFrs
import Derived.Test.YtjchdegapadepaaGreatDoorGCanon
import Derived.Test.YtjchdegapadepaaGreatDoorGMem
import Derived.Laws.AppendOwnNone
namespace Go.Proofs.YtjchdegapadepaaGreatDoor
open Go.RowKit Pl
structure OG (w1 wr : World) (ob n : Nat) (f : Nat -> List Int) : Prop where
  rows : OwnRows encI 1 3 27 wr w1.heap.size ob n f
  bel : Below ob w1 wr
  oth : ∀ b, b < w1.heap.size -> b ≠ ob -> wr.heap[b]? = w1.heap[b]?
theorem OG.sl {α : Type} {enc : α -> List Value} {m : Nat} {w1 wr : World} {ob n : Nat} {f : Nat -> List Int} {a : Option Addr} {b off : Nat} {xs : List α} (h : OG w1 wr ob n f) (hS : SlAt enc m w1 a b off xs) (hb : 0 < xs.length -> b ≠ ob) : SlAt enc m wr a b off xs :=
  ⟨hS.ad, fun hp => Nat.lt_of_lt_of_le (hS.lt hp) h.bel.size, fun i x hx j u hu => by
    have hp : 0 < xs.length := by have := (List.getElem?_eq_some_iff.1 hx).1; omega
    rw [World.cell?_of_block (w := w1) (a := ⟨b, off + i * m + j, none⟩) (h.oth b (hS.lt hp) (hb hp))]
    exact hS.cell i x hx j u hu⟩
theorem OG.congr {w1 wr : World} {ob n : Nat} {f f' : Nat -> List Int} (h : OG w1 wr ob n f) (e : ∀ i, f i = f' i) : OG w1 wr ob n f' := by
 have : f = f' := funext e
 rw [<- this]; exact h
theorem OG.open {w1 wr : World} {ob n : Nat} {f : Nat -> List Int} (h : OG w1 wr ob n f) {p : Nat} (hp : p < n) : ∃ v, wr.cell? ⟨ob, p, none⟩ = some v /\ wr.frozen? ⟨ob, p, none⟩ = false /\ wr.ownsRow w1.heap.size 3 1 v (f p).length ((f p).flatMap encI) /\
    ∀ (w2 w3 : World) (g cap : Nat) (ys : List Int), Below wr.heap.size wr w2 -> w3.ownsRow w1.heap.size 3 1 (.slice (some ⟨g, 0, none⟩) ys.length cap) ys.length (ys.flatMap encI) -> w2.grownBy w3 v.ownBlock -> (v.ownBlock = some g ∨ wr.heap.size <= g) ->
      w3.cell? ⟨ob, p, none⟩ = some v /\ w3.frozen? ⟨ob, p, none⟩ = false /\
      OG w1 (w3.setCell ⟨ob, p, none⟩ (.slice (some ⟨g, 0, none⟩) ys.length cap)) ob n (fun i => if i = p then ys else f i) := by
 obtain ⟨v, h1, h2, h3, h4⟩ := h.rows.open hp
 refine ⟨v, h1, h2, h3, fun w2 w3 g cap ys hB hown hg hgg => ?_⟩
 have hs := h.bel.size
 have hob := h.rows.lt
 obtain ⟨h5, h6, h7⟩ := h4 w2 w3 g cap ys hB (Nat.le_trans hs hB.size) hown hg hgg
 have hv : ∀ b, b < w1.heap.size -> some b ≠ v.ownBlock := fun b hb e => by have := (h3.lt b e.symm).1; omega
 refine ⟨h5, h6, h7, ((h.bel.trans (hB.mono (by omega))).grown hg (by have := hB.size; omega) (fun k hk => by have := (h3.lt k hk).1; omega)).setCell (Nat.le_refl _) _, fun b hb hne => ?_⟩
 rw [Below.heap_setCell _ _ _ _ hne, hg.block b (by have := hB.size; omega) (hv b hb), hB.block b (by omega)]
 exact h.oth b hb hne
def memK (C : List Int) (k : Nat) (c : Int) : List Int := ((List.range k).filter (fun x => decide (C[x]? = some c))).map Int.ofNat
theorem z0x {C : List Int} {k : Nat} {x : Int} (hx : C[k]? = some x) (c : Int) : memK C (k + 1) c = if x = c then memK C k c ++ [(k : Int)] else memK C k c := by
 unfold memK
 rw [List.range_succ, List.filter_append, List.map_append]
 by_cases h : x = c
 · subst h; rw [if_pos rfl]; simp [hx]
 · rw [if_neg h]; simp [hx, h]
theorem z1t (C : List Int) (k : Nat) (c : Int) : (memK C k c).length <= k := by
 unfold memK
 rw [List.length_map]
 have := List.length_filter_le (fun x => decide (C[x]? = some c)) (List.range k)
 rwa [List.length_range] at this
end Go.Proofs.YtjchdegapadepaaGreatDoor
namespace Go.Proofs.YtjchdegapadepaaGreatDoor
open Go.RowKit Pl
def plc (D : List Nat) (i j : Nat) : Int := if j ∈ D.take i then (D.idxOf j : Int) + 1 else 0
theorem q2c {m k : Nat} (hk : k < m) : memK ((List.range m).map Int.ofNat) m (k : Int) = [(k : Int)] := by
 have h : ∀ j : Nat, k < j -> j <= m -> memK ((List.range m).map Int.ofNat) j (k : Int) = [(k : Int)] := by (
 have h0 : ∀ j : Nat, j <= k -> memK ((List.range m).map Int.ofNat) j (k : Int) = [] := by (
 intro j hj
 induction j with
 | zero => rfl
 | succ j ih =>
   rw [z0x (x := (j : Int)) (by rw [List.getElem?_map, List.getElem?_range (by omega)]; rfl), if_neg (by omega), ih (by omega)])
 intro j
 induction j with
 | zero => intro h; omega
 | succ j ih => (
 intro h1 h2
 rw [z0x (x := (j : Int)) (by rw [List.getElem?_map, List.getElem?_range (by omega)]; rfl)]
 by_cases e : j = k
 · subst e; rw [if_pos rfl, h0 j (Nat.le_refl _)]; rfl
 · rw [if_neg (by omega), ih (by omega) (by omega)]))
 exact h m hk (Nat.le_refl _)
theorem q1o {m : Nat} : ∀ D : List Nat, (∀ x ∈ D, x < m) -> (D.flatMap fun k : Nat => memK ((List.range m).map Int.ofNat) m (k : Int)) = D.map Int.ofNat
  | [], _ => rfl
  | x :: D, h => by
    rw [List.flatMap_cons, q2c (h x (by simp)), q1o D (fun y hy => h y (by simp [hy]))]; rfl
theorem ord_len {t : Lts} {m : Nat} {D : List Nat} (hD : OrdL t m D) (ha : ∀ k, k < m -> k ∈ D) : D.length = m := by
 have h1 := p0t D (List.range m) hD.nodup (fun x hx => List.mem_range.2 (hD.rng x hx))
 have h2 := p0t (List.range m) D List.nodup_range (fun x hx => ha x (List.mem_range.1 hx))
 simp at h1 h2
 omega
theorem z1d {s : Lts} {n : Nat} {f : Nat -> Int} (hr : s.Right) (hn : s.st = (n : Int)) (hc : Cyc s n f) {m : Nat} {g : Nat -> Int} (hg : Cyc (col s (fl n (clf n f))) m g) : fl m (clf m g) = (List.range m).map Int.ofNat := by
 rw [<- j0u]; exact x2b hr hn hc hg
theorem self_col {s : Lts} {n : Nat} {f : Nat -> Int} (hr : s.Right) (hn : s.st = (n : Int)) (hc : Cyc s n f) {m : Nat} (hm : (col s (fl n (clf n f))).st = (m : Int)) {g : Nat -> Int} (hg : Cyc (col s (fl n (clf n f))) m g) :
    col (col s (fl n (clf n f))) (fl m (clf m g)) = col s (fl n (clf n f)) := by
 rw [z1d hr hn hc hg]
 have h1 : (col s (fl n (clf n f))).st = ((dist (fl n (clf n f))).length : Int) := rfl
 rw [j0y] at h1
 obtain rfl : m = (dist (fl n f)).length := by omega
 exact col_col hr hn
end Go.Proofs.YtjchdegapadepaaGreatDoor
namespace Go.Proofs.YtjchdegapadepaaGreatDoor
open Go.RowKit Pl
theorem z0h : ∀ (l : List S), Srt ltS l -> (∀ y ∈ l, 0 <= y.1) -> l.takeWhile (fun y => y.1 == 0) = l.filter (fun y => y.1 == 0)
  | [], _, _ => rfl
  | x :: l, h, h0 => by
    have hh := List.pairwise_cons.1 h
    by_cases e : x.1 = 0
    · have e2 : (x.1 == 0) = true := by simp [e]
      rw [List.takeWhile_cons, List.filter_cons, e2]
      simp only [if_true]
      rw [z0h l hh.2 (fun y hy => h0 y (List.mem_cons_of_mem _ hy))]
    · have e2 : (x.1 == 0) = false := by simp [e]
      rw [List.takeWhile_cons, List.filter_cons, e2]
      simp only [Bool.false_eq_true, if_false]
      symm
      rw [List.filter_eq_nil_iff]
      intro y hy
      have h1 := hh.1 y hy
      rw [k0q] at h1
      have h2 := h0 x List.mem_cons_self
      simp; omega
section
variable {t : Lts}
theorem j1t (hr : t.Right) (hs : Srt ltE t.es) (k : Nat) : (withL 0 (t.outs (k : Int))).length = Wt t [] k := by
 rw [Wt_nil]
 unfold withL taus
 rw [z0h _ (x0k hs _) (fun z hz => (j0e.1 (hr.edges _ (j0j.1 hz))).2.2.1)]
 simp
theorem z1q {k : Nat} {x : Int} : x ∈ withL 0 (t.ins (k : Int)) ↔ (x, 0, (k : Int)) ∈ t.es := by
 unfold withL Lts.ins
 simp only [List.mem_map, List.mem_filter, beq_iff_eq]
 constructor
 · rintro ⟨y, ⟨⟨z, ⟨h1, h2⟩, rfl⟩, h3⟩, rfl⟩
   obtain ⟨z1, z2, z3⟩ := z
   simp only at h2 h3 ⊢
   subst h2 h3
   exact (j0t j2w _ t.es).1 h1
 · intro h
   exact ⟨(0, x), ⟨⟨(x, 0, (k : Int)), ⟨(j0t j2w _ t.es).2 h, rfl⟩, rfl⟩, rfl⟩, rfl⟩
theorem z0a {k j : Nat} : (j : Int) ∈ withL 0 (t.ins (k : Int)) ↔ tau t j k := z1q
theorem u1q (k : Nat) : (withL 0 (t.ins (k : Int))).Nodup := by
 unfold withL List.Nodup
 rw [List.pairwise_map]
 refine List.Pairwise.imp_of_mem ?_ (List.Pairwise.filter (fun y : S => y.1 == 0) (ins_srt (s := t) (k : Int)))
 intro a b ha hb hab e
 have h1 := (List.mem_filter.1 ha).2; have h2 := (List.mem_filter.1 hb).2
 simp only [beq_iff_eq] at h1 h2
 rw [k0q] at hab
 omega
theorem from_rng (hr : t.Right) {m : Nat} (hm : t.st = (m : Int)) {k : Nat} {x : Int} (h : x ∈ withL 0 (t.ins (k : Int))) : ∃ j : Nat, x = (j : Int) /\ j < m := by
 have h1 := j0e.1 (hr.edges _ (z1q.1 h))
 simp only at h1
 exact ⟨x.toNat, by omega, by omega⟩
def W8 (t : Lts) (D : List Nat) (j : Nat) : Int := if j ∈ D then -1 else (Wt t D j : Int)
def W9 (t : Lts) (D : List Nat) (k : Nat) (L : List Int) (j : Nat) : Int := (if j = k then -1 else W8 t D j) - (L.count (j : Int) : Int)
theorem W9_nil (D : List Nat) (k : Nat) (j : Nat) : W9 t D k [] j = if j = k then -1 else W8 t D j := by simp [W9]
theorem W9_snoc (D : List Nat) (k : Nat) (L : List Int) (x j : Nat) : W9 t D k (L ++ [(x : Int)]) j = if j = x then W9 t D k L x - 1 else W9 t D k L j := by
 unfold W9
 rw [List.count_append]
 by_cases h : j = x
 · subst h; rw [if_pos rfl]; simp; omega
 · rw [if_neg h]
   have : ¬ ((x : Int) = (j : Int)) := by omega
   simp [this]
theorem W9_end (hr : t.Right) (hs : Srt ltE t.es) {m : Nat} {D : List Nat} {k : Nat} (hD : OrdL t m D) (hk : IsNext t m D k) (j : Nat) : W9 t D k (withL 0 (t.ins (k : Int))) j = W8 t (D ++ [k]) j := by
 have hc : ((withL 0 (t.ins (k : Int))).count (j : Int)) = if (j : Int) ∈ withL 0 (t.ins (k : Int)) then 1 else 0 := List.Nodup.count (u1q k)
 have hz := (y1y hr hs).1 hk.all
 unfold W9
 rw [hc]
 by_cases hj : j = k
 · subst hj
   rw [if_pos rfl]
   have h1 : ¬ (j : Int) ∈ withL 0 (t.ins (j : Int)) := fun h => hk.new (hz j (z0a.1 h))
   rw [if_neg h1]
   unfold W8; rw [if_pos (by simp)]; rfl
 · (
 rw [if_neg hj]
 unfold W8
 by_cases hjD : j ∈ D
 · have h1 : ¬ (j : Int) ∈ withL 0 (t.ins (k : Int)) := fun h => hk.new (hD.closed hr hs hjD (z0a.1 h))
   rw [if_neg h1, if_pos hjD, if_pos (show j ∈ D ++ [k] by simp [hjD])]; rfl
 · (
 rw [if_neg hjD, if_neg (show ¬ j ∈ D ++ [k] by simp [hjD, hj])]
 haveI : Decidable (tau t j k) := Classical.propDecidable _
 have h2 := Wt_add hr hs hk.new j
 by_cases h3 : tau t j k
 · rw [if_pos (z0a.2 h3)]; rw [if_pos h3] at h2; rw [h2]; omega
 · rw [if_neg (fun h => h3 (z0a.1 h))]; rw [if_neg h3] at h2; rw [h2]; omega))
theorem x2u (D : List Nat) (j : Nat) : W8 t D j = 0 ↔ j ∉ D /\ Wt t D j = 0 := by
 unfold W8
 by_cases h : j ∈ D
 · rw [if_pos h]; simp [h]
 · rw [if_neg h]; simp [h]
theorem Wt_le (hr : t.Right) (D : List Nat) (j : Nat) : Wt t D j <= 10000 := by
 unfold Wt taus
 have h1 := p0d hr (j : Int)
 have h2 := List.length_filter_le (fun y => !decide (y ∈ D)) (((t.outs (j : Int)).takeWhile (fun y => y.1 == 0)).map (fun y => y.2.toNat))
 rw [List.length_map] at h2
 have h3 := (List.takeWhile_sublist (fun y : S => y.1 == 0) (l := t.outs (j : Int))).length_le
 omega
theorem W8_rng (hr : t.Right) (D : List Nat) (j : Nat) : -1 <= W8 t D j /\ W8 t D j <= 10000 := by
 have := Wt_le hr D j
 unfold W8; split <;> omega
theorem W9_rng (hr : t.Right) (D : List Nat) (k : Nat) (L : List Int) (hL : L.length <= 10000) (j : Nat) : -10001 <= W9 t D k L j /\ W9 t D k L j <= 10000 := by
 have h1 := W8_rng hr D j
 have h2 := List.count_le_length (a := (j : Int)) (l := L)
 unfold W9; split <;> omega
end
structure OQ (W wr : World) (M : Nat) (f : Nat -> Int) : Prop where
  rows : wr.rowIs W.heap.size 3 M (fun j => .int .i64 (f j))
  bel : Below W.heap.size W wr
theorem OQ.call {W wr w' : World} {M : Nat} {f : Nat -> Int} (h : OQ W wr M f) (hB : Below wr.heap.size wr w') : OQ W w' M f :=
  ⟨h.rows.of_block (hB.block _ h.rows.lt), h.bel.trans (hB.mono h.bel.size)⟩
theorem OQ.set {W wr : World} {M : Nat} {f : Nat -> Int} (h : OQ W wr M f) (i : Nat) (x : Int) : OQ W (wr.setCell ⟨W.heap.size, i, none⟩ (.int .i64 x)) M (fun j => if j = i then x else f j) :=
  ⟨(h.rows.set i (.int .i64 x)).congr (fun j _ => by by_cases e : j = i <;> simp [e]), h.bel.setCell (Nat.le_refl _) _⟩
theorem OQ.congr {W wr : World} {M : Nat} {f g : Nat -> Int} (h : OQ W wr M f) (e : ∀ j, j < M -> f j = g j) : OQ W wr M g :=
  ⟨h.rows.congr (fun j hj => by rw [e j hj]), h.bel⟩
theorem OQ.grown {W wr w' : World} {M : Nat} {f : Nat -> Int} {v : Value} {e : TypeId} {k n : Nat} {xs : List Value} (h : OQ W wr M f) (ho : wr.ownsRow (W.heap.size + 1) e k v n xs) (hg : wr.grownBy w' v.ownBlock) : OQ W w' M f :=
  ⟨h.rows.of_block (hg.block _ h.rows.lt (fun e => by have := (ho.lt _ e.symm).1; omega)), h.bel.grown hg h.bel.size (fun k hk => by have := (ho.lt k hk).1; omega)⟩
def clsM (C : List Int) (n : Nat) (k : Nat) : List Nat := (List.range n).filter (fun x => decide (C[x]? = some (k : Int)))
theorem q2d (C : List Int) (n k : Nat) : memK C n (k : Int) = (clsM C n k).map Int.ofNat := rfl
theorem q0c {C : List Int} {n k x : Nat} : x ∈ clsM C n k ↔ x < n /\ C[x]? = some (k : Int) := by simp [clsM]
theorem q2s (C : List Int) (n : Nat) (D : List Nat) : (D.flatMap fun k : Nat => memK C n (k : Int)) = (D.flatMap (clsM C n)).map Int.ofNat := by
 induction D with
 | nil => rfl
 | cons k D ih => rw [List.flatMap_cons, List.flatMap_cons, List.map_append, ih, q2d]
theorem y1m (C : List Int) (n : Nat) {D : List Nat} (h : D.Nodup) : (D.flatMap (clsM C n)).Nodup := by
 unfold List.Nodup
 rw [List.pairwise_flatMap]
 refine ⟨fun k _ => List.Nodup.sublist List.filter_sublist List.nodup_range, List.Pairwise.imp ?_ h⟩
 intro a b hab x hx y hy e
 subst e
 have h1 := (q0c.1 hx).2; have h2 := (q0c.1 hy).2
 rw [h1] at h2
 simp only [Option.some.injEq] at h2
 exact hab (by omega)
theorem k1m (C : List Int) (n : Nat) {D : List Nat} (h : D.Nodup) : (D.flatMap fun k : Nat => memK C n (k : Int)).length <= n := by
 rw [q2s, List.length_map]
 have := p0t _ (List.range n) (y1m C n h) (fun x hx => by
   obtain ⟨k, _, hk⟩ := List.mem_flatMap.1 hx
   exact List.mem_range.2 (q0c.1 hk).1)
 rwa [List.length_range] at this
theorem z1y {C : List Int} {n M : Nat} (hC : ∀ x, x < n -> ∃ k : Nat, k < M /\ C[x]? = some (k : Int)) {D : List Nat} (hD : ∀ k, k < M -> k ∈ D) : n <= (D.flatMap fun k : Nat => memK C n (k : Int)).length := by
 rw [q2s, List.length_map]
 have := p0t (List.range n) (D.flatMap (clsM C n)) List.nodup_range (fun x hx => by (
 have hx := List.mem_range.1 hx
 obtain ⟨k, hk, hc⟩ := hC x hx
 exact List.mem_flatMap.2 ⟨k, hD k hk, q0c.2 ⟨hx, hc⟩⟩))
 rwa [List.length_range] at this
theorem q2q {C : List Int} {n M : Nat} (hC : ∀ x, x < n -> ∃ k : Nat, k < M /\ C[x]? = some (k : Int)) {D : List Nat} (h : (D.flatMap fun k : Nat => memK C n (k : Int)).length < n) : ∃ k, k < M /\ k ∉ D := by
 refine Classical.byContradiction fun hc => ?_
 have := z1y hC (D := D) (fun k hk => Classical.byContradiction fun h2 => hc ⟨k, hk, h2⟩)
 omega
theorem q2r {C : List Int} {n M : Nat} (hs : ∀ k, k < M -> ∃ x, x < n /\ C[x]? = some (k : Int)) {D : List Nat} (hn : D.Nodup) (h : n <= (D.flatMap fun k : Nat => memK C n (k : Int)).length) : ∀ k, k < M -> k ∈ D := by
 intro k hk
 refine Classical.byContradiction fun hkD => ?_
 have h1 := k1m C n (D := D ++ [k]) (by
   rw [List.nodup_append]
   exact ⟨hn, by simp, fun a ha b hb e => by simp at hb; subst hb; subst e; exact hkD ha⟩)
 rw [List.flatMap_append, List.length_append] at h1
 obtain ⟨x, hx, hc⟩ := hs k hk
 have h2 : 0 < (memK C n (k : Int)).length := by
   rw [q2d, List.length_map]
   exact List.length_pos_of_mem (q0c.2 ⟨hx, hc⟩)
 rw [show ([k].flatMap fun k : Nat => memK C n (k : Int)) = memK C n (k : Int) by simp] at h1
 omega
theorem memK_pos {C : List Int} {n k : Nat} (h : ∃ x, x < n /\ C[x]? = some (k : Int)) : 0 < (memK C n (k : Int)).length := by
 obtain ⟨x, hx, hc⟩ := h
 rw [q2d, List.length_map]
 exact List.length_pos_of_mem (q0c.2 ⟨hx, hc⟩)
theorem cls_onto {n : Nat} {f : Nat -> Int} {k : Nat} (hk : k < (dist (fl n f)).length) : ∃ x, x < n /\ (fl n (clf n f))[x]? = some (k : Int) := by
 obtain ⟨x, hx, h⟩ := clf_onto hk
 exact ⟨x, hx, by rw [j0h _ hx, h]⟩
theorem cls_in {n : Nat} {f : Nat -> Int} {x : Nat} (hx : x < n) : ∃ k : Nat, k < (dist (fl n f)).length /\ (fl n (clf n f))[x]? = some (k : Int) := by
 have h := p0q (f := f) hx
 obtain ⟨k, hk⟩ := Int.eq_ofNat_of_zero_le h.1
 exact ⟨k, by omega, by rw [j0h _ hx, hk]⟩
end Go.Proofs.YtjchdegapadepaaGreatDoor
namespace Go.Proofs.YtjchdegapadepaaGreatDoor
open Go.RowKit Pl
theorem u0u {α : Type} {enc : α -> List Value} {k : Nat} {w : World} {a : Option Addr} {ad : Addr} {b off : Nat} {xs : List α} (hk : ∀ x, (enc x).length = k) (h1 : ∀ x, ∀ u ∈ enc x, u.oneCell' = true) (hS : SlAt enc k w a b off xs) (ha : a = some ad) :
    (∀ j u, (xs.flatMap enc)[j]? = some u -> w.cell? (ad.add j) = some u) /\ (∀ u ∈ xs.flatMap enc, u.oneCell' = true) /\ (xs.flatMap enc).length = xs.length * k := by
 refine ⟨fun j u hu => ?_, fun u hu => ?_, j0b hk xs⟩
 · (
 have hp : 0 < xs.length := by (
 rcases Nat.eq_zero_or_pos xs.length with h | h
 · rw [List.eq_nil_of_length_eq_zero h] at hu; simp at hu
 · exact h)
 have had := hS.ad hp
 rw [ha] at had
 cases had
 exact q0h hk hS j u hu)
 · obtain ⟨y, _, hy⟩ := List.mem_flatMap.1 hu
   exact h1 y u hy
theorem x1j {P : Program} {w : World} {ops : Array Oper} {rest : List Oper} {o : Oper} {a : Act} {Q : Exit -> Act -> World -> Prop} (hgd : o.guard = none) (s x : Operand) (t : TypeId)
    (ho : o.op = .call { callee := .builtin .append, args := #[s, x], argTypes := #[t, t] })
    {e : TypeId} {size bytes : Nat} {z : Value} (R : IsRow P t e size bytes z) {base : Nat} (hb0 : base <= w.heap.size)
    {v : Value} {n : Nat} {xs : List Value} (hs : a.eval s = v) (hown : w.ownsRow base e size v n xs)
    {α : Type} {enc : α -> List Value} {ys : List α} {sa : Option Addr} {b off c : Nat} (hk : ∀ x, (enc x).length = size) (h1 : ∀ x, ∀ u ∈ enc x, u.oneCell' = true) (hS : SlAt enc size w sa b off ys) (hx : a.eval x = .slice sa ys.length c)
    (hbytes : (n + ys.length) * bytes <= 140737488355328) (hmax : n + ys.length <= maxLen)
    (h : ∀ v' w', w'.ownsRow base e size v' (n + ys.length) (xs ++ ys.flatMap enc) -> w.grownBy w' v.ownBlock -> wpList P ops Q rest (a.put o.dst v') w') : wpList P ops Q (o :: rest) a w := by
 cases sa with
 | some ad =>
   obtain ⟨g1, g2, g3⟩ := u0u hk h1 hS rfl
   exact p0g (w0 := w) hgd s x t ho R (Below.refl base w) hb0 hs hown ad ys.length c _ hx g3 g1 g2 hbytes hmax (fun v' w' h2 _ h3 => h v' w' h2 h3)
 | none => (
 have h0 : ys = [] := by (
 rcases Nat.eq_zero_or_pos ys.length with h | h
 · exact List.eq_nil_of_length_eq_zero h
 · have := hS.ad h; cases this)
 subst h0
 obtain ⟨i, hi, _⟩ := R.info
 refine wpList_plain hgd fun K hK => ?_
 have hrun : (Builtin.append_ #[t, t] o.type #[v, .slice none 0 c]).run P w = .ok v w := by (
 rcases hown.2 with ⟨rfl, rfl⟩ | ⟨g, cap, cur, rfl, _, _, hnc, _⟩
 · simp [Builtin.append_, run_underlying R.ht, sizeOf, typeInfo, hi, Builtin.lenOf, Builtin.firstCells]
 · simp [Builtin.append_, run_underlying R.ht, sizeOf, typeInfo, hi, Builtin.lenOf, Builtin.firstCells, hnc, storeCells])
 have hx' : a.eval x = .slice none 0 c := hx
 unfold Oper.wp
 simp [execOp, ho, resolve, invoke, builtin, hs, hx', hrun, Result.andThen]
 exact hK _ _ (h v w (by simpa using hown) ⟨rfl, rfl, rfl, Nat.le_refl _, fun _ _ _ => rfl⟩))
end Go.Proofs.YtjchdegapadepaaGreatDoor
