/-
  Plain: the one form, list by list: its beginnings, how it is told from others.
  Helpers over the kit's library: rows that a call owns, slices that are read, appends; no function of the program is walked here.
-/
import Derived.Test.YtmlmjhmdjieigaaGreatDoorGPl3
import Derived.Test.YtmlmjhmdjieigaaGreatDoorChecked
import Derived.WalkKit
import Derived.WalkSpells
import Derived.WalkLawsBesides
import Derived.Lib.Hide
import Derived.Deep.OwnRows
import Derived.Deep.AppendLies
namespace Go.Proofs.YtmlmjhmdjieigaaGreatDoor
namespace Pl

theorem canon_snoc (l : List Int) (x : Int) : canon (l ++ [x]) = canon l ++ [((dist (l ++ [x])).idxOf x : Int)] := by
  unfold canon
  rw [List.map_append, List.map_cons, List.map_nil]
  congr 1
  apply List.map_congr_left
  intro y hy
  rw [idx_append l [x] hy]

theorem canon_take (xs : List Int) (i : Nat) : (canon xs).take i = canon (xs.take i) := by
  unfold canon
  rw [← List.map_take]
  apply List.map_congr_left
  intro y hy
  conv => lhs; rw [← List.take_append_drop i xs]
  rw [idx_append _ _ hy]

theorem idx_range : ∀ (n a : Nat) (x : Nat), x < n → ((List.range' a n).map Int.ofNat).idxOf ((a + x : Nat) : Int) = x
  | 0, _, _, h => by omega
  | n + 1, a, 0, _ => by simp [List.range'_succ]
  | n + 1, a, x + 1, h => by
    rw [List.range'_succ, List.map_cons, List.idxOf_cons]
    have hb : (Int.ofNat a == ((a + (x + 1) : Nat) : Int)) = false := by simp; omega
    rw [hb]
    have := idx_range n (a + 1) x (by omega)
    rw [show a + (x + 1) = a + 1 + x by omega]
    simp only [cond_false, this]

theorem map_idx : ∀ (l : List Int), l.Nodup → l.map (fun x => (l.idxOf x : Int)) = (List.range l.length).map Int.ofNat := by
  intro l hn
  apply List.ext_getElem?
  intro i
  rw [List.getElem?_map, List.getElem?_map]
  by_cases h : i < l.length
  · rw [List.getElem?_eq_getElem h, List.getElem?_range h]
    simp only [Option.map_some]
    congr 1
    have := List.Nodup.idxOf_getElem hn i h
    rw [this]; rfl
  · rw [List.getElem?_eq_none (by omega), List.getElem?_eq_none (by simp; omega)]; rfl

theorem dist_canon (l : List Int) : dist (canon l) = (List.range (dist l).length).map Int.ofNat := by
  have h := dist_map (f := fun x => ((dist l).idxOf x : Int)) l (fun x hx y hy h => idx_inj ((mem_dist l).2 hx) ((mem_dist l).2 hy) (Int.ofNat.inj h))
  unfold canon
  exact h.trans (map_idx _ (nodup_dist l))

/-- The number of classes ahead of i. -/
def nUp (xs : List Int) (i : Nat) : Nat := (dist (xs.take i)).length

theorem nUp_le (xs : List Int) (i : Nat) : nUp xs i ≤ i := by
  unfold nUp; have := dist_len (xs.take i); simp at this; omega

theorem nUp_snoc {xs : List Int} {i : Nat} {x : Int} (h : xs[i]? = some x) : xs.take (i + 1) = xs.take i ++ [x] := by
  obtain ⟨hl, rfl⟩ := List.getElem?_eq_some_iff.1 h
  exact List.take_succ_eq_append_getElem hl

/-- The one form's own steps: an old class. -/
theorem form_old {xs : List Int} {i : Nat} {x : Int} (h : xs[i]? = some x) (hc : canon (xs.take i) = xs.take i) (h0 : 0 ≤ x) (h1 : x < nUp xs i) :
    canon (xs.take (i + 1)) = xs.take (i + 1) ∧ nUp xs (i + 1) = nUp xs i := by
  have hd := dist_canon (xs.take i)
  rw [hc] at hd
  obtain ⟨k, rfl⟩ := Int.eq_ofNat_of_zero_le h0
  unfold nUp at h1
  have hk : k < (dist (xs.take i)).length := by omega
  have hm : (k : Int) ∈ dist (xs.take i) := by
    rw [hd, List.mem_map]; exact ⟨k, by simpa using hk, rfl⟩
  have hdd : dist (xs.take (i + 1)) = dist (xs.take i) := by rw [nUp_snoc h, dist_snoc]; unfold addN; rw [if_pos hm]
  refine ⟨?_, by unfold nUp; rw [hdd]⟩
  have hix : (dist (xs.take (i + 1))).idxOf (k : Int) = k := by
    rw [hdd, hd, List.range_eq_range']
    have := idx_range (dist (xs.take i)).length 0 k hk
    simpa using this
  rw [nUp_snoc h] at hix ⊢
  rw [canon_snoc, hix, hc]

/-- .. a new one. -/
theorem form_new {xs : List Int} {i : Nat} {x : Int} (h : xs[i]? = some x) (hc : canon (xs.take i) = xs.take i) (h1 : x = nUp xs i) :
    canon (xs.take (i + 1)) = xs.take (i + 1) ∧ nUp xs (i + 1) = nUp xs i + 1 := by
  have hd := dist_canon (xs.take i)
  rw [hc] at hd
  unfold nUp at h1
  have hm : x ∉ dist (xs.take i) := by
    rw [hd, List.mem_map]; rintro ⟨k, hk, rfl⟩
    rw [List.mem_range] at hk
    have : (k : Int) = ((dist (xs.take i)).length : Int) := h1
    omega
  have hdd : dist (xs.take (i + 1)) = dist (xs.take i) ++ [x] := by rw [nUp_snoc h, dist_snoc]; unfold addN; rw [if_neg hm]
  refine ⟨?_, by unfold nUp; rw [hdd]; simp⟩
  have hix : (dist (xs.take (i + 1))).idxOf x = (dist (xs.take i)).length := by rw [hdd, List.idxOf_append]; simp [hm]
  rw [nUp_snoc h] at hix ⊢
  rw [canon_snoc, hix, hc, ← h1]

/-- .. none at all. -/
theorem form_no {xs : List Int} {i : Nat} {x : Int} (h : xs[i]? = some x) (h1 : x < 0 ∨ (nUp xs i : Int) < x) : canon xs ≠ xs := by
  intro e
  have h2 := canon_get xs i
  rw [e, h] at h2
  simp only [Option.map_some, Option.some.injEq] at h2
  have h3 := idx_append (xs.take (i + 1)) (xs.drop (i + 1)) (y := x) (by rw [nUp_snoc h]; simp)
  rw [List.take_append_drop] at h3
  rw [h3] at h2
  have h4 : (dist (xs.take (i + 1))).idxOf x ≤ nUp xs i := by
    rw [nUp_snoc h, dist_snoc]
    unfold nUp
    by_cases hm : x ∈ dist (xs.take i)
    · rw [idx_addN hm]; exact List.idxOf_le_length
    · rw [idx_new hm]; exact Nat.le_refl _
  omega

/-- The greatest of the one form's numbers, and one more. -/
theorem nUp_canon {xs : List Int} {i : Nat} {x : Int} (h : xs[i]? = some x) :
    (if (nUp xs i : Int) ≤ ((dist xs).idxOf x : Int) then ((dist xs).idxOf x : Int) + 1 else (nUp xs i : Int)) = nUp xs (i + 1) := by
  have h3 := idx_append (xs.take (i + 1)) (xs.drop (i + 1)) (y := x) (by rw [nUp_snoc h]; simp)
  rw [List.take_append_drop] at h3
  rw [h3]
  unfold nUp
  rw [nUp_snoc h, dist_snoc]
  by_cases hm : x ∈ dist (xs.take i)
  · rw [idx_addN hm]
    have := List.idxOf_lt_length_of_mem hm
    unfold addN
    rw [if_pos hm, if_neg (by omega)]
  · rw [idx_new hm]
    unfold addN
    rw [if_neg hm, if_pos (by omega)]
    simp

end Pl
end Go.Proofs.YtmlmjhmdjieigaaGreatDoor

namespace Go.Proofs.YtmlmjhmdjieigaaGreatDoor
open Go.RowKit

/-- What a program's tables say of a slice type t with elements e. -/
structure IsRow (P : Program) (t e : TypeId) (size bytes : Nat) (z : Value) : Prop where
  ht : P.underlying t = some (.slice e)
  info : ∃ i, P.info? e = some i ∧ i.zero = some z ∧ i.size = size ∧ i.bytes = bytes
  zs : z.cells.size = size
  pos : 0 < size

theorem isRow_of {P : Program} {t e : TypeId} {size bytes : Nat} {z : Value} (ht : P.underlying t = some (.slice e))
    (h : (P.info? e).map (fun i => (i.zero, i.size, i.bytes)) = some (some z, size, bytes)) (zs : z.cells.size = size) (pos : 0 < size) : IsRow P t e size bytes z :=
  ⟨ht, by obtain ⟨i, a, b, c, d⟩ := info_parts h; exact ⟨i, a, b, c, d⟩, zs, pos⟩

/-- 'out = append(out, news...)', out the call's own. -/
theorem wpList_app {P : Program} {w : World} {ops : Array Oper} {rest : List Oper} {o : Oper} {a : Act} {Q : Exit → Act → World → Prop} (hgd : o.guard = none) (s x : Operand) (t : TypeId)
    (ho : o.op = .call { callee := .builtin .append, args := #[s, x], argTypes := #[t, t] })
    {e : TypeId} {size bytes : Nat} {z : Value} (R : IsRow P t e size bytes z) {base : Nat} {w0 : World} (hB : Below base w0 w) (hb0 : base ≤ w.heap.size)
    {v : Value} {n : Nat} {xs : List Value} (hs : a.eval s = v) (hown : w.ownsRow base e size v n xs)
    (ad : Addr) (m c : Nat) (news : List Value) (hx : a.eval x = .slice (some ad) m c) (hl : news.length = m * size) (hnews : ∀ j u, news[j]? = some u → w.cell? (ad.add j) = some u) (h1 : ∀ u ∈ news, u.oneCell' = true)
    (hbytes : (n + m) * bytes ≤ 140737488355328) (hmax : n + m ≤ maxLen)
    (h : ∀ v' w', w'.ownsRow base e size v' (n + m) (xs ++ news) → Below base w0 w' → w.grownBy w' v.ownBlock → wpList P ops Q rest (a.put o.dst v') w') : wpList P ops Q (o :: rest) a w := by
  obtain ⟨i, hi, hz, hsz, hby⟩ := R.info
  refine wpList_append_own w hgd s x t ho base e i z size bytes R.ht hi hz hsz hby R.zs R.pos v n xs hs hown ad m c news hx hl hnews h1 hmax hbytes hb0 ?_
  intro v' w' h1 h2 _
  exact h v' w' h1 (hB.grown h2 hb0 (fun k hk => (hown.lt k hk).1)) h2

/-- The same at a step of a region that draws its order: for 'go_region_law'. -/
theorem step_app {P : Program} {w : World} {ops : Array Oper} {o : Oper} {a : Act} {K : Act → World → Prop} {Q : Exit → Act → World → Prop} {E : Prop} (hgd : o.guard = none) (s x : Operand) (t : TypeId)
    (ho : o.op = .call { callee := .builtin .append, args := #[s, x], argTypes := #[t, t] })
    {e : TypeId} {size bytes : Nat} {z : Value} (R : IsRow P t e size bytes z) {base : Nat}
    {v : Value} {n : Nat} {xs : List Value} (hs : a.eval s = v) (hown : w.ownsRow base e size v n xs)
    (ad : Addr) (m c : Nat) (news : List Value) (hx : a.eval x = .slice (some ad) m c) (hl : news.length = m * size) (hnews : ∀ j u, news[j]? = some u → w.cell? (ad.add j) = some u) (h1 : ∀ u ∈ news, u.oneCell' = true)
    (hbytes : (n + m) * bytes ≤ 140737488355328) (hmax : n + m ≤ maxLen) (hbase : base ≤ w.heap.size)
    (h : ∀ v' w', w'.ownsRow base e size v' (n + m) (xs ++ news) → w.grownBy w' v.ownBlock → K (a.put o.dst v') w') :
    if Region.wanted o (yielded ops a.tmps) = true then Oper.wp P o a w K Q else E := by
  have hw : Region.wanted o (yielded ops a.tmps) = true := by simp [Region.wanted, hgd]
  rw [if_pos hw]
  obtain ⟨i, hi, hz, hsz, hby⟩ := R.info
  exact wp_append_own w s x t ho base e i z size bytes R.ht hi hz hsz hby R.zs R.pos v n xs hs hown ad m c news hx hl hnews h1 hmax hbytes hbase (fun v' w' h1 h2 _ => h v' w' h1 h2)

/-- .. of at least one element: the new value written out, its block a letter. -/
theorem step_app1 {P : Program} {w : World} {ops : Array Oper} {o : Oper} {a : Act} {K : Act → World → Prop} {Q : Exit → Act → World → Prop} {E : Prop} (hgd : o.guard = none) (s x : Operand) (t : TypeId)
    (ho : o.op = .call { callee := .builtin .append, args := #[s, x], argTypes := #[t, t] })
    {e : TypeId} {size bytes : Nat} {z : Value} (R : IsRow P t e size bytes z) {base : Nat}
    {v : Value} {n : Nat} {xs : List Value} (hs : a.eval s = v) (hown : w.ownsRow base e size v n xs)
    (ad : Addr) (m c : Nat) (news : List Value) (hx : a.eval x = .slice (some ad) m c) (hl : news.length = m * size) (hnews : ∀ j u, news[j]? = some u → w.cell? (ad.add j) = some u) (h1 : ∀ u ∈ news, u.oneCell' = true) (hm : 0 < m)
    (hbytes : (n + m) * bytes ≤ 140737488355328) (hmax : n + m ≤ maxLen) (hbase : base ≤ w.heap.size)
    (h : ∀ g cap w', w'.ownsRow base e size (.slice (some ⟨g, 0, none⟩) (n + m) cap) (n + m) (xs ++ news) → w.grownBy w' v.ownBlock → K (a.put o.dst (.slice (some ⟨g, 0, none⟩) (n + m) cap)) w') :
    if Region.wanted o (yielded ops a.tmps) = true then Oper.wp P o a w K Q else E := by
  refine step_app hgd s x t ho R hs hown ad m c news hx hl hnews h1 hbytes hmax hbase (fun v' w' h2 h3 => ?_)
  obtain ⟨g, cap, rfl, _⟩ := h2.form (by omega)
  exact h g cap w' h2 h3

/-- .. and in a plain region's list. -/
theorem wpList_app1 {P : Program} {w : World} {ops : Array Oper} {rest : List Oper} {o : Oper} {a : Act} {Q : Exit → Act → World → Prop} (hgd : o.guard = none) (s x : Operand) (t : TypeId)
    (ho : o.op = .call { callee := .builtin .append, args := #[s, x], argTypes := #[t, t] })
    {e : TypeId} {size bytes : Nat} {z : Value} (R : IsRow P t e size bytes z) {base : Nat} {w0 : World} (hB : Below base w0 w) (hb0 : base ≤ w.heap.size)
    {v : Value} {n : Nat} {xs : List Value} (hs : a.eval s = v) (hown : w.ownsRow base e size v n xs)
    (ad : Addr) (m c : Nat) (news : List Value) (hx : a.eval x = .slice (some ad) m c) (hl : news.length = m * size) (hnews : ∀ j u, news[j]? = some u → w.cell? (ad.add j) = some u) (h1 : ∀ u ∈ news, u.oneCell' = true) (hm : 0 < m)
    (hbytes : (n + m) * bytes ≤ 140737488355328) (hmax : n + m ≤ maxLen)
    (h : ∀ g cap w', w'.ownsRow base e size (.slice (some ⟨g, 0, none⟩) (n + m) cap) (n + m) (xs ++ news) → Below base w0 w' → w.grownBy w' v.ownBlock → wpList P ops Q rest (a.put o.dst (.slice (some ⟨g, 0, none⟩) (n + m) cap)) w') : wpList P ops Q (o :: rest) a w := by
  refine wpList_app hgd s x t ho R hB hb0 hs hown ad m c news hx hl hnews h1 hbytes hmax (fun v' w' h2 h3 h4 => ?_)
  obtain ⟨g, cap, rfl, _⟩ := h2.form (by omega)
  exact h g cap w' h2 h3 h4

/-- One cell, new, at the head of its block. -/
theorem cells1 {w : World} {b : Nat} {u0 : Value} (h : w.cell? ⟨b, 0, none⟩ = some u0) : ∀ j u, [u0][j]? = some u → w.cell? ((⟨b, 0, none⟩ : Addr).add j) = some u := by
  intro j u hj
  match j, hj with
  | 0, hj => simp at hj; subst hj; simpa [Addr.add] using h

theorem cells2 {w : World} {b : Nat} {u0 u1 : Value} (h : w.cell? ⟨b, 0, none⟩ = some u0) (h1 : w.cell? ⟨b, 1, none⟩ = some u1) : ∀ j u, [u0, u1][j]? = some u → w.cell? ((⟨b, 0, none⟩ : Addr).add j) = some u := by
  intro j u hj
  match j, hj with
  | 0, hj => simp at hj; subst hj; simpa [Addr.add] using h
  | 1, hj => simp at hj; subst hj; simpa [Addr.add] using h1
theorem cells3 {w : World} {b : Nat} {u0 u1 u2 : Value} (h : w.cell? ⟨b, 0, none⟩ = some u0) (h1 : w.cell? ⟨b, 1, none⟩ = some u1) (h2 : w.cell? ⟨b, 2, none⟩ = some u2) : ∀ j u, [u0, u1, u2][j]? = some u → w.cell? ((⟨b, 0, none⟩ : Addr).add j) = some u := by
  intro j u hj
  match j, hj with
  | 0, hj => simp at hj; subst hj; simpa [Addr.add] using h
  | 1, hj => simp at hj; subst hj; simpa [Addr.add] using h1
  | 2, hj => simp at hj; subst hj; simpa [Addr.add] using h2

end Go.Proofs.YtmlmjhmdjieigaaGreatDoor
