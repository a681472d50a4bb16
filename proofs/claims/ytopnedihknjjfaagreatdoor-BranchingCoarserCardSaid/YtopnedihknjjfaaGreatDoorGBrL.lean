/-
  Plain: what chapter 12's laws ask of the classes of branching bisimilarity.
  Helpers over the kit's library: rows that a call owns, slices that are read, appends; no function of the program is walked here.
-/
import Derived.Test.YtopnedihknjjfaaGreatDoorGBrT
import Derived.Test.YtopnedihknjjfaaGreatDoorGPlT
import Derived.Test.YtopnedihknjjfaaGreatDoorChecked
import Derived.WalkKit
import Derived.WalkSpells
import Derived.WalkLawsBesides
import Derived.Lib.Hide
import Derived.Deep.OwnRows
import Derived.Deep.AppendLies
namespace Go.Proofs.YtopnedihknjjfaaGreatDoor
namespace Pl

theorem Rounds.holds0 {s : Lts} {n : Nat} (hr : s.Right) (hn : s.st = (n : Int)) {C : Nat → Int} (h : Rounds s n C) : Holds s n C := by
  induction h with
  | zero => exact fun _ _ _ _ _ _ _ => rfl
  | step _ h2 ih => exact ih.next hr hn h2
/-- The collapsed system is right, as an Lts of so many states. -/
theorem col_st (s : Lts) (n : Nat) (f : Nat → Int) : (col s (fl n (clf n f))).st = ((dist (fl n f)).length : Int) := by
  show ((dist (fl n (clf n f))).length : Int) = _
  rw [dist_clf_len]
/-- The classes of the system and of its collapsed one say the same. -/
theorem big_col {s : Lts} {n : Nat} (hr : s.Right) (hn : s.st = (n : Int)) {f : Nat → Int} {C D : Nat → Int} (h : Rounds (col s (fl n (clf n f))) (dist (fl n f)).length C) (hs : Still (col s (fl n (clf n f))) (dist (fl n f)).length C) (hd : BrBig (col s (fl n (clf n f))) (dist (fl n f)).length D) {p q : Nat} (hp : p < n) (hq : q < n) : C (asF n f p) = C (asF n f q) ↔ D (asF n f p) = D (asF n f q) := by
  have h1 : BrBig (col s (fl n (clf n f))) (dist (fl n f)).length C := ⟨hs, h.holds0 (col_right hr hn) (col_st s n f)⟩
  exact h1.same (col_right hr hn) (col_st s n f) hd (asF_lt hp) (asF_lt hq)
/-- A silent step put ahead of a state. -/
def aheadS (s : Lts) (p : Int) : Lts := ⟨s.st + 1, s.lb, s.s0, s.es ++ [(s.st, 0, p)]⟩
theorem ahead_together {s : Lts} {n p : Nat} (hr : s.Right) (hn : s.st = (n : Int)) (hp : p < n) {C : Nat → Int} (h : BrBig (aheadS s (p : Int)) (n + 1) C) : C n = C p := by
  have h1 : ∀ {a b : Nat} {l : Int}, stp (aheadS s (p : Int)) a l b ↔ stp s a l b ∨ (a = n ∧ l = 0 ∧ b = p) := by
    intro a b l
    unfold stp aheadS
    simp only [List.mem_append, List.mem_singleton, Prod.mk.injEq]
    rw [hn]
    constructor
    · rintro (h | ⟨h1, h2, h3⟩)
      · exact .inl h
      · exact .inr ⟨by omega, h2, by omega⟩
    · rintro (h | ⟨h1, h2, h3⟩)
      · exact .inl h
      · exact .inr ⟨by omega, h2, by omega⟩
  have hno : ∀ {l : Int} {b : Nat}, ¬ stp s n l b := fun h => by have := (stp_lt hr hn h).1; omega
  have hown : stp (aheadS s (p : Int)) n 0 p := h1.2 (.inr ⟨rfl, rfl, rfl⟩)
  refine h.all (fun a b => a = b ∨ (a = n ∧ b = p) ∨ (a = p ∧ b = n)) ⟨?_, ?_⟩ n p (by omega) (by omega) (.inr (.inl ⟨rfl, rfl⟩))
  · rintro a b ha hb (rfl | ⟨rfl, rfl⟩ | ⟨rfl, rfl⟩) l t ht hs
    · exact .inr ⟨a, t, .refl ⟨ha, .inl rfl⟩, ht, hs, .inl rfl⟩
    · rcases h1.1 hs with h2 | ⟨_, rfl, rfl⟩
      · exact absurd h2 hno
      · exact .inl ⟨rfl, .inl rfl⟩
    · exact .inr ⟨a, t, .tail (.refl ⟨hb, .inr (.inr ⟨rfl, rfl⟩)⟩) hown ⟨ha, .inl rfl⟩, ht, hs, .inl rfl⟩
  · rintro a b ha hb (rfl | ⟨rfl, rfl⟩ | ⟨rfl, rfl⟩) l t ht hs
    · exact .inr ⟨a, t, .refl ⟨ha, .inl rfl⟩, ht, hs, .inl rfl⟩
    · exact .inr ⟨b, t, .tail (.refl ⟨ha, .inr (.inl ⟨rfl, rfl⟩)⟩) hown ⟨hb, .inl rfl⟩, ht, hs, .inl rfl⟩
    · rcases h1.1 hs with h2 | ⟨_, rfl, rfl⟩
      · exact absurd h2 hno
      · exact .inl ⟨rfl, .inl rfl⟩
theorem ahead_right {s : Lts} {n p : Nat} (hr : s.Right) (hn : s.st = (n : Int)) (hp : p < n) (h1 : n + 1 ≤ 1000) (h2 : s.es.length + 1 ≤ 10000) : (aheadS s (p : Int)).Right := by
  have h0 := hr.st0
  have hh := hr.head
  refine ⟨?_, fun x hx => ?_⟩
  · unfold HeadBad aheadS at *
    simp only [List.length_append, List.length_cons, List.length_nil] at *
    omega
  · unfold aheadS at hx
    simp only [List.mem_append, List.mem_singleton] at hx
    rw [offB_false]
    unfold aheadS
    simp only
    rcases hx with h | rfl
    · have := offB_false.1 (hr.edges _ h); omega
    · simp only; omega
/-- Who is strongly bisimilar is together. -/
theorem strong_br {s : Lts} {n : Nat} {C D : Nat → Int} (h : BrBig s n C) (hd : Big s n D) {p q : Nat} (hp : p < n) (hq : q < n) (e : D p = D q) : C p = C q := by
  refine h.all (fun a b => D a = D b) ⟨fun a b ha hb hab l t ht hs => ?_, fun a b ha hb hab l t ht hs => ?_⟩ p q hp hq e
  · obtain ⟨u, hu, h1, h2⟩ := (hd.bis a b ha hb hab).1 l t ht hs
    exact .inr ⟨b, u, .refl ⟨hb, hab⟩, hu, h1, h2⟩
  · obtain ⟨u, hu, h1, h2⟩ := (hd.bis a b ha hb hab).2 l t ht hs
    exact .inr ⟨a, u, .refl ⟨ha, hab⟩, hu, h1, h2⟩
/-- With no silent step it is just who is. -/
theorem br_strong {s : Lts} {n : Nat} (hr : s.Right) (hn : s.st = (n : Int)) {C D : Nat → Int} (h : BrBig s n C) (hd : Big s n D) (hl : ∀ x ∈ s.es, x.2.1 ≠ 0) {p q : Nat} (hp : p < n) (hq : q < n) (e : C p = C q) : D p = D q := by
  have hv : ∀ {X : Nat → Prop} {a b : Nat}, Via s X a b → a = b := by
    intro X a b hv
    cases hv with
    | refl _ => rfl
    | tail _ h2 _ => exact absurd rfl (hl _ h2)
  refine hd.all (fun a b => C a = C b) (fun a b ha hb hab => ⟨fun l t ht hs => ?_, fun l t ht hs => ?_⟩) p q hp hq e
  · rcases (h.still.br hr hn).fwd a b ha hb hab l t ht hs with ⟨h1, _⟩ | ⟨q0, q', h3, h4, h5, h6⟩
    · exact absurd h1 (hl _ hs)
    · obtain rfl := hv h3
      exact ⟨q', h4, h5, h6⟩
  · rcases (h.still.br hr hn).bwd a b ha hb hab l t ht hs with ⟨h1, _⟩ | ⟨q0, q', h3, h4, h5, h6⟩
    · exact absurd h1 (hl _ hs)
    · obtain rfl := hv h3
      exact ⟨q', h4, h5, h6⟩
end Pl
end Go.Proofs.YtopnedihknjjfaaGreatDoor

namespace Go.Proofs.YtopnedihknjjfaaGreatDoor
open Go.RowKit

/-- What a program's tables say of a slice type t with elements e. -/
structure IsRow (P : Program) (t e : TypeId) (size bytes : Nat) (z : Value) : Prop where
  ht : P.underlying t = some (.slice e)
  info : ∃ i, P.info? e = some i ∧ i.zero = some z ∧ i.size = size ∧ i.bytes = bytes
  zs : z.cells.size = size
  pos : 0 < size

theorem isRow_of {P : Program} {t e : TypeId} {size bytes : Nat} {z : Value} (ht : P.underlying t = some (.slice e))
    (h : (P.info? e).map (fun i => (i.zero, i.size, i.bytes)) = some (some z, size, bytes)) (zs : z.cells.size = size) (pos : 0 < size) : IsRow P t e size bytes z :=
  ⟨ht, by obtain ⟨i, a, b, c, d⟩ := info_parts h; exact ⟨i, a, b, c, d⟩, zs, pos⟩

/-- 'out = append(out, news...)', out the call's own. -/
theorem wpList_app {P : Program} {w : World} {ops : Array Oper} {rest : List Oper} {o : Oper} {a : Act} {Q : Exit → Act → World → Prop} (hgd : o.guard = none) (s x : Operand) (t : TypeId)
    (ho : o.op = .call { callee := .builtin .append, args := #[s, x], argTypes := #[t, t] })
    {e : TypeId} {size bytes : Nat} {z : Value} (R : IsRow P t e size bytes z) {base : Nat} {w0 : World} (hB : Below base w0 w) (hb0 : base ≤ w.heap.size)
    {v : Value} {n : Nat} {xs : List Value} (hs : a.eval s = v) (hown : w.ownsRow base e size v n xs)
    (ad : Addr) (m c : Nat) (news : List Value) (hx : a.eval x = .slice (some ad) m c) (hl : news.length = m * size) (hnews : ∀ j u, news[j]? = some u → w.cell? (ad.add j) = some u) (h1 : ∀ u ∈ news, u.oneCell' = true)
    (hbytes : (n + m) * bytes ≤ 140737488355328) (hmax : n + m ≤ maxLen)
    (h : ∀ v' w', w'.ownsRow base e size v' (n + m) (xs ++ news) → Below base w0 w' → w.grownBy w' v.ownBlock → wpList P ops Q rest (a.put o.dst v') w') : wpList P ops Q (o :: rest) a w := by
  obtain ⟨i, hi, hz, hsz, hby⟩ := R.info
  refine wpList_append_own w hgd s x t ho base e i z size bytes R.ht hi hz hsz hby R.zs R.pos v n xs hs hown ad m c news hx hl hnews h1 hmax hbytes hb0 ?_
  intro v' w' h1 h2 _
  exact h v' w' h1 (hB.grown h2 hb0 (fun k hk => (hown.lt k hk).1)) h2

/-- The same at a step of a region that draws its order: for 'go_region_law'. -/
theorem step_app {P : Program} {w : World} {ops : Array Oper} {o : Oper} {a : Act} {K : Act → World → Prop} {Q : Exit → Act → World → Prop} {E : Prop} (hgd : o.guard = none) (s x : Operand) (t : TypeId)
    (ho : o.op = .call { callee := .builtin .append, args := #[s, x], argTypes := #[t, t] })
    {e : TypeId} {size bytes : Nat} {z : Value} (R : IsRow P t e size bytes z) {base : Nat}
    {v : Value} {n : Nat} {xs : List Value} (hs : a.eval s = v) (hown : w.ownsRow base e size v n xs)
    (ad : Addr) (m c : Nat) (news : List Value) (hx : a.eval x = .slice (some ad) m c) (hl : news.length = m * size) (hnews : ∀ j u, news[j]? = some u → w.cell? (ad.add j) = some u) (h1 : ∀ u ∈ news, u.oneCell' = true)
    (hbytes : (n + m) * bytes ≤ 140737488355328) (hmax : n + m ≤ maxLen) (hbase : base ≤ w.heap.size)
    (h : ∀ v' w', w'.ownsRow base e size v' (n + m) (xs ++ news) → w.grownBy w' v.ownBlock → K (a.put o.dst v') w') :
    if Region.wanted o (yielded ops a.tmps) = true then Oper.wp P o a w K Q else E := by
  have hw : Region.wanted o (yielded ops a.tmps) = true := by simp [Region.wanted, hgd]
  rw [if_pos hw]
  obtain ⟨i, hi, hz, hsz, hby⟩ := R.info
  exact wp_append_own w s x t ho base e i z size bytes R.ht hi hz hsz hby R.zs R.pos v n xs hs hown ad m c news hx hl hnews h1 hmax hbytes hbase (fun v' w' h1 h2 _ => h v' w' h1 h2)

/-- .. of at least one element: the new value written out, its block a letter. -/
theorem step_app1 {P : Program} {w : World} {ops : Array Oper} {o : Oper} {a : Act} {K : Act → World → Prop} {Q : Exit → Act → World → Prop} {E : Prop} (hgd : o.guard = none) (s x : Operand) (t : TypeId)
    (ho : o.op = .call { callee := .builtin .append, args := #[s, x], argTypes := #[t, t] })
    {e : TypeId} {size bytes : Nat} {z : Value} (R : IsRow P t e size bytes z) {base : Nat}
    {v : Value} {n : Nat} {xs : List Value} (hs : a.eval s = v) (hown : w.ownsRow base e size v n xs)
    (ad : Addr) (m c : Nat) (news : List Value) (hx : a.eval x = .slice (some ad) m c) (hl : news.length = m * size) (hnews : ∀ j u, news[j]? = some u → w.cell? (ad.add j) = some u) (h1 : ∀ u ∈ news, u.oneCell' = true) (hm : 0 < m)
    (hbytes : (n + m) * bytes ≤ 140737488355328) (hmax : n + m ≤ maxLen) (hbase : base ≤ w.heap.size)
    (h : ∀ g cap w', w'.ownsRow base e size (.slice (some ⟨g, 0, none⟩) (n + m) cap) (n + m) (xs ++ news) → w.grownBy w' v.ownBlock → K (a.put o.dst (.slice (some ⟨g, 0, none⟩) (n + m) cap)) w') :
    if Region.wanted o (yielded ops a.tmps) = true then Oper.wp P o a w K Q else E := by
  refine step_app hgd s x t ho R hs hown ad m c news hx hl hnews h1 hbytes hmax hbase (fun v' w' h2 h3 => ?_)
  obtain ⟨g, cap, rfl, _⟩ := h2.form (by omega)
  exact h g cap w' h2 h3

/-- .. and in a plain region's list. -/
theorem wpList_app1 {P : Program} {w : World} {ops : Array Oper} {rest : List Oper} {o : Oper} {a : Act} {Q : Exit → Act → World → Prop} (hgd : o.guard = none) (s x : Operand) (t : TypeId)
    (ho : o.op = .call { callee := .builtin .append, args := #[s, x], argTypes := #[t, t] })
    {e : TypeId} {size bytes : Nat} {z : Value} (R : IsRow P t e size bytes z) {base : Nat} {w0 : World} (hB : Below base w0 w) (hb0 : base ≤ w.heap.size)
    {v : Value} {n : Nat} {xs : List Value} (hs : a.eval s = v) (hown : w.ownsRow base e size v n xs)
    (ad : Addr) (m c : Nat) (news : List Value) (hx : a.eval x = .slice (some ad) m c) (hl : news.length = m * size) (hnews : ∀ j u, news[j]? = some u → w.cell? (ad.add j) = some u) (h1 : ∀ u ∈ news, u.oneCell' = true) (hm : 0 < m)
    (hbytes : (n + m) * bytes ≤ 140737488355328) (hmax : n + m ≤ maxLen)
    (h : ∀ g cap w', w'.ownsRow base e size (.slice (some ⟨g, 0, none⟩) (n + m) cap) (n + m) (xs ++ news) → Below base w0 w' → w.grownBy w' v.ownBlock → wpList P ops Q rest (a.put o.dst (.slice (some ⟨g, 0, none⟩) (n + m) cap)) w') : wpList P ops Q (o :: rest) a w := by
  refine wpList_app hgd s x t ho R hB hb0 hs hown ad m c news hx hl hnews h1 hbytes hmax (fun v' w' h2 h3 h4 => ?_)
  obtain ⟨g, cap, rfl, _⟩ := h2.form (by omega)
  exact h g cap w' h2 h3 h4

/-- One cell, new, at the head of its block. -/
theorem cells1 {w : World} {b : Nat} {u0 : Value} (h : w.cell? ⟨b, 0, none⟩ = some u0) : ∀ j u, [u0][j]? = some u → w.cell? ((⟨b, 0, none⟩ : Addr).add j) = some u := by
  intro j u hj
  match j, hj with
  | 0, hj => simp at hj; subst hj; simpa [Addr.add] using h

theorem cells2 {w : World} {b : Nat} {u0 u1 : Value} (h : w.cell? ⟨b, 0, none⟩ = some u0) (h1 : w.cell? ⟨b, 1, none⟩ = some u1) : ∀ j u, [u0, u1][j]? = some u → w.cell? ((⟨b, 0, none⟩ : Addr).add j) = some u := by
  intro j u hj
  match j, hj with
  | 0, hj => simp at hj; subst hj; simpa [Addr.add] using h
  | 1, hj => simp at hj; subst hj; simpa [Addr.add] using h1
theorem cells3 {w : World} {b : Nat} {u0 u1 u2 : Value} (h : w.cell? ⟨b, 0, none⟩ = some u0) (h1 : w.cell? ⟨b, 1, none⟩ = some u1) (h2 : w.cell? ⟨b, 2, none⟩ = some u2) : ∀ j u, [u0, u1, u2][j]? = some u → w.cell? ((⟨b, 0, none⟩ : Addr).add j) = some u := by
  intro j u hj
  match j, hj with
  | 0, hj => simp at hj; subst hj; simpa [Addr.add] using h
  | 1, hj => simp at hj; subst hj; simpa [Addr.add] using h1
  | 2, hj => simp at hj; subst hj; simpa [Addr.add] using h2

end Go.Proofs.YtopnedihknjjfaaGreatDoor
