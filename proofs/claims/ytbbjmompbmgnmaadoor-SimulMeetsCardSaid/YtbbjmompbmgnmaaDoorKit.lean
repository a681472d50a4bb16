/-
  Helpers over the kit's library: rows that a call owns, slices that are read, appends; no function of the program is walked here.
-/
import Derived.Test.YtbbjmompbmgnmaaDoorChecked
import Derived.WalkKit
import Derived.WalkSpells
import Derived.WalkLawsBesides
import Derived.Lib.Hide
import Derived.Deep.OwnRows
import Derived.Deep.AppendLies
namespace Go.Proofs.YtbbjmompbmgnmaaDoor
open Go.RowKit

/-- What a program's tables say of a slice type t with elements e. -/
structure IsRow (P : Program) (t e : TypeId) (size bytes : Nat) (z : Value) : Prop where
  ht : P.underlying t = some (.slice e)
  info : ∃ i, P.info? e = some i ∧ i.zero = some z ∧ i.size = size ∧ i.bytes = bytes
  zs : z.cells.size = size
  pos : 0 < size

theorem isRow_of {P : Program} {t e : TypeId} {size bytes : Nat} {z : Value} (ht : P.underlying t = some (.slice e))
    (h : (P.info? e).map (fun i => (i.zero, i.size, i.bytes)) = some (some z, size, bytes)) (zs : z.cells.size = size) (pos : 0 < size) : IsRow P t e size bytes z :=
  ⟨ht, by obtain ⟨i, a, b, c, d⟩ := info_parts h; exact ⟨i, a, b, c, d⟩, zs, pos⟩

/-- 'out = append(out, news...)', out the call's own. -/
theorem wpList_app {P : Program} {w : World} {ops : Array Oper} {rest : List Oper} {o : Oper} {a : Act} {Q : Exit → Act → World → Prop} (hgd : o.guard = none) (s x : Operand) (t : TypeId)
    (ho : o.op = .call { callee := .builtin .append, args := #[s, x], argTypes := #[t, t] })
    {e : TypeId} {size bytes : Nat} {z : Value} (R : IsRow P t e size bytes z) {base : Nat} {w0 : World} (hB : Below base w0 w) (hb0 : base ≤ w.heap.size)
    {v : Value} {n : Nat} {xs : List Value} (hs : a.eval s = v) (hown : w.ownsRow base e size v n xs)
    (ad : Addr) (m c : Nat) (news : List Value) (hx : a.eval x = .slice (some ad) m c) (hl : news.length = m * size) (hnews : ∀ j u, news[j]? = some u → w.cell? (ad.add j) = some u) (h1 : ∀ u ∈ news, u.oneCell' = true)
    (hbytes : (n + m) * bytes ≤ 140737488355328) (hmax : n + m ≤ maxLen)
    (h : ∀ v' w', w'.ownsRow base e size v' (n + m) (xs ++ news) → Below base w0 w' → w.grownBy w' v.ownBlock → wpList P ops Q rest (a.put o.dst v') w') : wpList P ops Q (o :: rest) a w := by
  obtain ⟨i, hi, hz, hsz, hby⟩ := R.info
  refine wpList_append_own w hgd s x t ho base e i z size bytes R.ht hi hz hsz hby R.zs R.pos v n xs hs hown ad m c news hx hl hnews h1 hmax hbytes hb0 ?_
  intro v' w' h1 h2 _
  exact h v' w' h1 (hB.grown h2 hb0 (fun k hk => (hown.lt k hk).1)) h2

/-- The same at a step of a region that draws its order: for 'go_region_law'. -/
theorem step_app {P : Program} {w : World} {ops : Array Oper} {o : Oper} {a : Act} {K : Act → World → Prop} {Q : Exit → Act → World → Prop} {E : Prop} (hgd : o.guard = none) (s x : Operand) (t : TypeId)
    (ho : o.op = .call { callee := .builtin .append, args := #[s, x], argTypes := #[t, t] })
    {e : TypeId} {size bytes : Nat} {z : Value} (R : IsRow P t e size bytes z) {base : Nat}
    {v : Value} {n : Nat} {xs : List Value} (hs : a.eval s = v) (hown : w.ownsRow base e size v n xs)
    (ad : Addr) (m c : Nat) (news : List Value) (hx : a.eval x = .slice (some ad) m c) (hl : news.length = m * size) (hnews : ∀ j u, news[j]? = some u → w.cell? (ad.add j) = some u) (h1 : ∀ u ∈ news, u.oneCell' = true)
    (hbytes : (n + m) * bytes ≤ 140737488355328) (hmax : n + m ≤ maxLen) (hbase : base ≤ w.heap.size)
    (h : ∀ v' w', w'.ownsRow base e size v' (n + m) (xs ++ news) → w.grownBy w' v.ownBlock → K (a.put o.dst v') w') :
    if Region.wanted o (yielded ops a.tmps) = true then Oper.wp P o a w K Q else E := by
  have hw : Region.wanted o (yielded ops a.tmps) = true := by simp [Region.wanted, hgd]
  rw [if_pos hw]
  obtain ⟨i, hi, hz, hsz, hby⟩ := R.info
  exact wp_append_own w s x t ho base e i z size bytes R.ht hi hz hsz hby R.zs R.pos v n xs hs hown ad m c news hx hl hnews h1 hmax hbytes hbase (fun v' w' h1 h2 _ => h v' w' h1 h2)

/-- .. of at least one element: the new value written out, its block a letter. -/
theorem step_app1 {P : Program} {w : World} {ops : Array Oper} {o : Oper} {a : Act} {K : Act → World → Prop} {Q : Exit → Act → World → Prop} {E : Prop} (hgd : o.guard = none) (s x : Operand) (t : TypeId)
    (ho : o.op = .call { callee := .builtin .append, args := #[s, x], argTypes := #[t, t] })
    {e : TypeId} {size bytes : Nat} {z : Value} (R : IsRow P t e size bytes z) {base : Nat}
    {v : Value} {n : Nat} {xs : List Value} (hs : a.eval s = v) (hown : w.ownsRow base e size v n xs)
    (ad : Addr) (m c : Nat) (news : List Value) (hx : a.eval x = .slice (some ad) m c) (hl : news.length = m * size) (hnews : ∀ j u, news[j]? = some u → w.cell? (ad.add j) = some u) (h1 : ∀ u ∈ news, u.oneCell' = true) (hm : 0 < m)
    (hbytes : (n + m) * bytes ≤ 140737488355328) (hmax : n + m ≤ maxLen) (hbase : base ≤ w.heap.size)
    (h : ∀ g cap w', w'.ownsRow base e size (.slice (some ⟨g, 0, none⟩) (n + m) cap) (n + m) (xs ++ news) → w.grownBy w' v.ownBlock → K (a.put o.dst (.slice (some ⟨g, 0, none⟩) (n + m) cap)) w') :
    if Region.wanted o (yielded ops a.tmps) = true then Oper.wp P o a w K Q else E := by
  refine step_app hgd s x t ho R hs hown ad m c news hx hl hnews h1 hbytes hmax hbase (fun v' w' h2 h3 => ?_)
  obtain ⟨g, cap, rfl, _⟩ := h2.form (by omega)
  exact h g cap w' h2 h3

/-- .. and in a plain region's list. -/
theorem wpList_app1 {P : Program} {w : World} {ops : Array Oper} {rest : List Oper} {o : Oper} {a : Act} {Q : Exit → Act → World → Prop} (hgd : o.guard = none) (s x : Operand) (t : TypeId)
    (ho : o.op = .call { callee := .builtin .append, args := #[s, x], argTypes := #[t, t] })
    {e : TypeId} {size bytes : Nat} {z : Value} (R : IsRow P t e size bytes z) {base : Nat} {w0 : World} (hB : Below base w0 w) (hb0 : base ≤ w.heap.size)
    {v : Value} {n : Nat} {xs : List Value} (hs : a.eval s = v) (hown : w.ownsRow base e size v n xs)
    (ad : Addr) (m c : Nat) (news : List Value) (hx : a.eval x = .slice (some ad) m c) (hl : news.length = m * size) (hnews : ∀ j u, news[j]? = some u → w.cell? (ad.add j) = some u) (h1 : ∀ u ∈ news, u.oneCell' = true) (hm : 0 < m)
    (hbytes : (n + m) * bytes ≤ 140737488355328) (hmax : n + m ≤ maxLen)
    (h : ∀ g cap w', w'.ownsRow base e size (.slice (some ⟨g, 0, none⟩) (n + m) cap) (n + m) (xs ++ news) → Below base w0 w' → w.grownBy w' v.ownBlock → wpList P ops Q rest (a.put o.dst (.slice (some ⟨g, 0, none⟩) (n + m) cap)) w') : wpList P ops Q (o :: rest) a w := by
  refine wpList_app hgd s x t ho R hB hb0 hs hown ad m c news hx hl hnews h1 hbytes hmax (fun v' w' h2 h3 h4 => ?_)
  obtain ⟨g, cap, rfl, _⟩ := h2.form (by omega)
  exact h g cap w' h2 h3 h4

/-- One cell, new, at the head of its block. -/
theorem cells1 {w : World} {b : Nat} {u0 : Value} (h : w.cell? ⟨b, 0, none⟩ = some u0) : ∀ j u, [u0][j]? = some u → w.cell? ((⟨b, 0, none⟩ : Addr).add j) = some u := by
  intro j u hj
  match j, hj with
  | 0, hj => simp at hj; subst hj; simpa [Addr.add] using h

theorem cells2 {w : World} {b : Nat} {u0 u1 : Value} (h : w.cell? ⟨b, 0, none⟩ = some u0) (h1 : w.cell? ⟨b, 1, none⟩ = some u1) : ∀ j u, [u0, u1][j]? = some u → w.cell? ((⟨b, 0, none⟩ : Addr).add j) = some u := by
  intro j u hj
  match j, hj with
  | 0, hj => simp at hj; subst hj; simpa [Addr.add] using h
  | 1, hj => simp at hj; subst hj; simpa [Addr.add] using h1
theorem cells3 {w : World} {b : Nat} {u0 u1 u2 : Value} (h : w.cell? ⟨b, 0, none⟩ = some u0) (h1 : w.cell? ⟨b, 1, none⟩ = some u1) (h2 : w.cell? ⟨b, 2, none⟩ = some u2) : ∀ j u, [u0, u1, u2][j]? = some u → w.cell? ((⟨b, 0, none⟩ : Addr).add j) = some u := by
  intro j u hj
  match j, hj with
  | 0, hj => simp at hj; subst hj; simpa [Addr.add] using h
  | 1, hj => simp at hj; subst hj; simpa [Addr.add] using h1
  | 2, hj => simp at hj; subst hj; simpa [Addr.add] using h2

end Go.Proofs.YtbbjmompbmgnmaaDoor
