/-
  tauscc.Order: all states, what silent steps lead to ahead.
  CyclesNone: plain: where each state stands in the order; a collapsed system's own order.
-/
import Derived.Test.YtmlmjhmdjieigaaGreatDoorTauI
import Derived.Test.YtmlmjhmdjieigaaGreatDoorPl12
import Derived.Test.YtmlmjhmdjieigaaGreatDoorGPlT
namespace Go.Proofs.YtmlmjhmdjieigaaGreatDoor
open Go.RowKit Pl

set_option maxRecDepth 100000 in
theorem orderNo_any {p : Addr} {s : Lts} (h : ¬ s.Right) {a : Option Addr} {b off c : Nat} {w : World} (hG : GErr 10 p w) (hT : ErrType w) (hS : SlAt encE 3 w a b off s.es) :
    Calls Tryz.prog 27 #[.agg #[.int .i64 s.st, .int .i64 s.lb, .int .i64 s.s0, .slice a s.es.length c]] w fun e w' =>
      ∃ v, e = .returned (.tuple #[.slice none 0 0, v]) ∧ Fault2 w' p v ∧ Below w.heap.size w w' := by
  have hB0 := (Below.refl w.heap.size w).alloc (Nat.le_refl _) (Obj.cells #[.int .i64 s.st, .int .i64 s.lb, .int .i64 s.s0, .slice a s.es.length c] 24)
  have hN := collapseNo_any (c := c) h (hG.below hB0) (hT.below hB0) (hS.below hB0 (Nat.le_refl _))
  have HN := Lib.hid hN; have HB0 := Lib.hid hB0
  clear hN hB0 hS hG h hT
  go_enter Tryz.func27, Tryz.ntmps27
  go_wp2_with fail
  refine HN.out.mono ?_
  rintro e w1 ⟨v, rfl, hF, hB1⟩
  obtain ⟨vi, hf1, hf2⟩ := id hF
  obtain ⟨fb, rfl, _⟩ := hf1.ex
  have HF := Lib.hid (hF.below ((Below.refl w1.heap.size w1).alloc (Nat.le_refl _) (Obj.cells #[.int .i64 0, .int .i64 0, .int .i64 0, .slice none 0 0] 24)))
  have hB := HB0.out.trans (hB1.mono (by simp))
  have HB := Lib.hid (hB.alloc hB.size (Obj.cells #[.int .i64 0, .int .i64 0, .int .i64 0, .slice none 0 0] 24))
  clear hf1 hf2 hF hB1 hB
  go_wp2
  go_ret2
  exact ⟨_, rfl, HF.out, HB.out⟩

/-- A row of lists that grow one by one; nothing else that stood is touched. -/
structure OG (w1 wr : World) (ob n : Nat) (f : Nat → List Int) : Prop where
  rows : OwnRows encI 1 3 27 wr w1.heap.size ob n f
  bel : Below ob w1 wr
  oth : ∀ b, b < w1.heap.size → b ≠ ob → wr.heap[b]? = w1.heap[b]?
theorem OG.sl {α : Type} {enc : α → List Value} {m : Nat} {w1 wr : World} {ob n : Nat} {f : Nat → List Int} {a : Option Addr} {b off : Nat} {xs : List α} (h : OG w1 wr ob n f) (hS : SlAt enc m w1 a b off xs) (hb : 0 < xs.length → b ≠ ob) : SlAt enc m wr a b off xs :=
  ⟨hS.ad, fun hp => Nat.lt_of_lt_of_le (hS.lt hp) h.bel.size, fun i x hx j u hu => by
    have hp : 0 < xs.length := by have := (List.getElem?_eq_some_iff.1 hx).1; omega
    rw [World.cell?_of_block (w := w1) (a := ⟨b, off + i * m + j, none⟩) (h.oth b (hS.lt hp) (hb hp))]
    exact hS.cell i x hx j u hu⟩
theorem OG.congr {w1 wr : World} {ob n : Nat} {f f' : Nat → List Int} (h : OG w1 wr ob n f) (e : ∀ i, f i = f' i) : OG w1 wr ob n f' := by
  have : f = f' := funext e
  rw [← this]; exact h
theorem OG.open {w1 wr : World} {ob n : Nat} {f : Nat → List Int} (h : OG w1 wr ob n f) {p : Nat} (hp : p < n) : ∃ v, wr.cell? ⟨ob, p, none⟩ = some v ∧ wr.frozen? ⟨ob, p, none⟩ = false ∧ wr.ownsRow w1.heap.size 3 1 v (f p).length ((f p).flatMap encI) ∧
    ∀ (w2 w3 : World) (g cap : Nat) (ys : List Int), Below wr.heap.size wr w2 → w3.ownsRow w1.heap.size 3 1 (.slice (some ⟨g, 0, none⟩) ys.length cap) ys.length (ys.flatMap encI) → w2.grownBy w3 v.ownBlock → (v.ownBlock = some g ∨ wr.heap.size ≤ g) →
      w3.cell? ⟨ob, p, none⟩ = some v ∧ w3.frozen? ⟨ob, p, none⟩ = false ∧
      OG w1 (w3.setCell ⟨ob, p, none⟩ (.slice (some ⟨g, 0, none⟩) ys.length cap)) ob n (fun i => if i = p then ys else f i) := by
  obtain ⟨v, h1, h2, h3, h4⟩ := h.rows.open hp
  refine ⟨v, h1, h2, h3, fun w2 w3 g cap ys hB hown hg hgg => ?_⟩
  have hs := h.bel.size
  have hob := h.rows.lt
  obtain ⟨h5, h6, h7⟩ := h4 w2 w3 g cap ys hB (Nat.le_trans hs hB.size) hown hg hgg
  have hv : ∀ b, b < w1.heap.size → some b ≠ v.ownBlock := fun b hb e => by have := (h3.lt b e.symm).1; omega
  refine ⟨h5, h6, h7, ((h.bel.trans (hB.mono (by omega))).grown hg (by have := hB.size; omega) (fun k hk => by have := (h3.lt k hk).1; omega)).setCell (Nat.le_refl _) _, fun b hb hne => ?_⟩
  rw [Below.heap_setCell _ _ _ _ hne, hg.block b (by have := hB.size; omega) (hv b hb), hB.block b (by omega)]
  exact h.oth b hb hne

/-- The states of a class, of the first k. -/
def memK (C : List Int) (k : Nat) (c : Int) : List Int := ((List.range k).filter (fun x => decide (C[x]? = some c))).map Int.ofNat
theorem memK_snoc {C : List Int} {k : Nat} {x : Int} (hx : C[k]? = some x) (c : Int) : memK C (k + 1) c = if x = c then memK C k c ++ [(k : Int)] else memK C k c := by
  unfold memK
  rw [List.range_succ, List.filter_append, List.map_append]
  by_cases h : x = c
  · subst h; rw [if_pos rfl]; simp [hx]
  · rw [if_neg h]; simp [hx, h]
theorem memK_len (C : List Int) (k : Nat) (c : Int) : (memK C k c).length ≤ k := by
  unfold memK
  rw [List.length_map]
  have := List.length_filter_le (fun x => decide (C[x]? = some c)) (List.range k)
  rwa [List.length_range] at this
end Go.Proofs.YtmlmjhmdjieigaaGreatDoor

namespace Go.Proofs.YtmlmjhmdjieigaaGreatDoor
open Go.RowKit Pl

/-- The place of each state, the first i being laid: 0: none. -/
def plc (D : List Nat) (i j : Nat) : Int := if j ∈ D.take i then (D.idxOf j : Int) + 1 else 0
theorem plc_nil (D : List Nat) (j : Nat) : plc D 0 j = 0 := by simp [plc]
theorem idxOf_at {D : List Nat} (hn : D.Nodup) {i k : Nat} (hk : D[i]? = some k) : D.idxOf k = i := by
  obtain ⟨hl, rfl⟩ := List.getElem?_eq_some_iff.1 hk
  exact hn.idxOf_getElem i hl
theorem plc_snoc {D : List Nat} (hn : D.Nodup) {i k : Nat} (hk : D[i]? = some k) (j : Nat) : plc D (i + 1) j = if j = k then (i : Int) + 1 else plc D i j := by
  have ht := take_snoc hk
  unfold plc
  rw [ht]
  by_cases e : j = k
  · subst e; simp [idxOf_at hn hk]
  · simp [e]
theorem plc_free {D : List Nat} (hn : D.Nodup) {i k : Nat} (hk : D[i]? = some k) : plc D i k = 0 := by
  unfold plc
  rw [if_neg]
  intro h
  obtain ⟨j, hj, he⟩ := List.mem_iff_getElem.1 h
  have hj2 : j < i := by rw [List.length_take] at hj; omega
  rw [List.getElem_take] at he
  have h1 : D[j]? = some k := by rw [← he]; exact List.getElem?_eq_getElem _
  have h2 := idxOf_at hn h1
  have h3 := idxOf_at hn hk
  omega
theorem plc_all {D : List Nat} {m : Nat} (hl : D.length ≤ m) {j : Nat} (h : j ∈ D) : plc D m j = (D.idxOf j : Int) + 1 := by
  unfold plc
  rw [if_pos (by rw [List.take_of_length_le hl]; exact h)]
theorem plc_rng (D : List Nat) (i j : Nat) : 0 ≤ plc D i j ∧ plc D i j ≤ D.length := by
  unfold plc
  split
  · rename_i h
    have := List.idxOf_lt_length_of_mem (List.mem_of_mem_take h)
    omega
  · omega
/-- What a silent step leads to stands ahead. -/
theorem plc_down {t : Lts} (hr : t.Right) (hs : Srt ltE t.es) {m : Nat} {D : List Nat} (hD : OrdL t m D) (hl : D.length ≤ m) {x y : Nat} (hx : x ∈ D) (h : tau t x y) : plc D m y < plc D m x := by
  have hi := List.idxOf_lt_length_of_mem hx
  have h1 : D[D.idxOf x]? = some x := by rw [List.getElem?_eq_getElem hi]; exact congrArg some (List.getElem_idxOf hi)
  have h2 := hD.ahead hr hs _ _ _ h1 h
  rw [plc_all hl hx, plc_all hl (List.mem_of_mem_take h2)]
  obtain ⟨j, hj, he⟩ := List.mem_iff_getElem.1 h2
  have hj2 : j < D.idxOf x := by rw [List.length_take] at hj; omega
  rw [List.getElem_take] at he
  have h3 : D[j]? = some y := by rw [← he]; exact List.getElem?_eq_getElem _
  have h4 := idxOf_at hD.nodup h3
  omega

theorem memK_self {m k : Nat} (hk : k < m) : memK ((List.range m).map Int.ofNat) m (k : Int) = [(k : Int)] := by
  have h : ∀ j : Nat, k < j → j ≤ m → memK ((List.range m).map Int.ofNat) j (k : Int) = [(k : Int)] := by
    have h0 : ∀ j : Nat, j ≤ k → memK ((List.range m).map Int.ofNat) j (k : Int) = [] := by
      intro j hj
      induction j with
      | zero => rfl
      | succ j ih =>
        rw [memK_snoc (x := (j : Int)) (by rw [List.getElem?_map, List.getElem?_range (by omega)]; rfl), if_neg (by omega), ih (by omega)]
    intro j
    induction j with
    | zero => intro h; omega
    | succ j ih =>
      intro h1 h2
      rw [memK_snoc (x := (j : Int)) (by rw [List.getElem?_map, List.getElem?_range (by omega)]; rfl)]
      by_cases e : j = k
      · subst e; rw [if_pos rfl, h0 j (Nat.le_refl _)]; rfl
      · rw [if_neg (by omega), ih (by omega) (by omega)]
  exact h m hk (Nat.le_refl _)
theorem flat_self {m : Nat} : ∀ D : List Nat, (∀ x ∈ D, x < m) → (D.flatMap fun k : Nat => memK ((List.range m).map Int.ofNat) m (k : Int)) = D.map Int.ofNat
  | [], _ => rfl
  | x :: D, h => by
    rw [List.flatMap_cons, memK_self (h x (by simp)), flat_self D (fun y hy => h y (by simp [hy]))]; rfl
theorem ord_len {t : Lts} {m : Nat} {D : List Nat} (hD : OrdL t m D) (ha : ∀ k, k < m → k ∈ D) : D.length = m := by
  have h1 := nodup_sub D (List.range m) hD.nodup (fun x hx => List.mem_range.2 (hD.rng x hx))
  have h2 := nodup_sub (List.range m) D List.nodup_range (fun x hx => ha x (List.mem_range.1 hx))
  simp at h1 h2
  omega

/-- A collapsed system's own classes: each state is one. -/
theorem self_cls {s : Lts} {n : Nat} {f : Nat → Int} (hr : s.Right) (hn : s.st = (n : Int)) (hc : Cyc s n f) {m : Nat} {g : Nat → Int} (hg : Cyc (col s (fl n (clf n f))) m g) : fl m (clf m g) = (List.range m).map Int.ofNat := by
  rw [← canon_fl]; exact col_apart hr hn hc hg
theorem self_col {s : Lts} {n : Nat} {f : Nat → Int} (hr : s.Right) (hn : s.st = (n : Int)) (hc : Cyc s n f) {m : Nat} (hm : (col s (fl n (clf n f))).st = (m : Int)) {g : Nat → Int} (hg : Cyc (col s (fl n (clf n f))) m g) :
    col (col s (fl n (clf n f))) (fl m (clf m g)) = col s (fl n (clf n f)) := by
  rw [self_cls hr hn hc hg]
  have h1 : (col s (fl n (clf n f))).st = ((dist (fl n (clf n f))).length : Int) := rfl
  rw [dist_clf_len] at h1
  obtain rfl : m = (dist (fl n f)).length := by omega
  exact col_col hr hn
end Go.Proofs.YtmlmjhmdjieigaaGreatDoor
