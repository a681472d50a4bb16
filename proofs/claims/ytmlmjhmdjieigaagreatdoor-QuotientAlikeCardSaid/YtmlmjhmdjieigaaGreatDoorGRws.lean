/-
  Rows that a call owns, each in a block of its own, side by side (structs are rows of one element): what reading, storing and appending do to them.
  A row of lists of numbers that grow one by one, all of them rows of the call's own.
  slices.Clone at edges and at steps: the same cells, in memory of the call's own.
  system.rows.row, and the graph in memory: Each, Back, own, States, Labels, Start.
-/
import Derived.Test.YtmlmjhmdjieigaaGreatDoorGKit
import Derived.Deep.AppendLies
import Derived.Deep.RegionLaw
import Derived.Test.YtmlmjhmdjieigaaGreatDoorGPl10
import Derived.Outline
import Derived.Deep.QuietTactic
import Derived.BigQuiet
import Derived.IntWalk
namespace Go.Proofs.YtmlmjhmdjieigaaGreatDoor
open Go.RowKit Pl

/-- A row: the type of its elements, the cells of each, the slice, how many elements, the cells. -/
structure Rw where
  T : TypeId
  k : Nat
  v : Value
  n : Nat
  xs : List Value

/-- The rows L of a call that began in w0, in the world w. -/
structure Rws (w0 w : World) (L : List Rw) : Prop where
  bel : Below w0.heap.size w0 w
  own : ∀ r ∈ L, w.ownsRow w0.heap.size r.T r.k r.v r.n r.xs
  apart : L.Pairwise (fun a b => ∀ g, a.v.ownBlock = some g → b.v.ownBlock ≠ some g)

section
variable {w0 w w' w1 : World} {L : List Rw} {r : Rw}

theorem own_blockR {base : Nat} {e : TypeId} {k n : Nat} {v : Value} {xs : List Value} (h : w.ownsRow base e k v n xs) (hb : ∀ g, v.ownBlock = some g → w'.heap[g]? = w.heap[g]?) : w'.ownsRow base e k v n xs := by
  refine ⟨h.1, ?_⟩
  rcases h.2 with h2 | ⟨g, cap, cur, hv, hbg, hg, r⟩
  · exact .inl h2
  · exact .inr ⟨g, cap, cur, hv, hbg, by rw [hb g (by rw [hv]; rfl)]; exact hg, r⟩

theorem Rws.call (h : Rws w0 w L) (hB : Below w.heap.size w w') : Rws w0 w' L :=
  ⟨h.bel.trans (hB.mono h.bel.size), fun r hr => own_below (h.own r hr) hB, h.apart⟩
theorem Rws.drew (h : Rws w0 w L) : Rws w0 w.drew L := h.call (Below.refl _ _).drew
theorem Rws.drewN (h : Rws w0 w L) (m : Nat) : Rws w0 (w.drewN m) L := h.call (bdrew (Below.refl _ _))
theorem Rws.alloc (h : Rws w0 w L) (o : Obj) : Rws w0 (w.alloc o) L := h.call ((Below.refl _ _).alloc (Nat.le_refl _) o)
theorem Rws.get (h : Rws w0 w L) {i : Nat} (hi : L[i]? = some r) : w.ownsRow w0.heap.size r.T r.k r.v r.n r.xs := h.own r (List.mem_of_getElem? hi)
theorem Rws.nil (hB : Below w0.heap.size w0 w) : Rws w0 w [] := ⟨hB, fun _ h => by simp at h, .nil⟩

/-- No two rows share a block. -/
theorem Rws.ne (h : Rws w0 w L) {i j : Nat} {a b : Rw} (hi : L[i]? = some a) (hj : L[j]? = some b) (hij : i ≠ j) {g : Nat} (ha : a.v.ownBlock = some g) : b.v.ownBlock ≠ some g := by
  have hp := List.pairwise_iff_getElem.1 h.apart
  obtain ⟨hil, rfl⟩ := List.getElem?_eq_some_iff.1 hi
  obtain ⟨hjl, rfl⟩ := List.getElem?_eq_some_iff.1 hj
  rcases Nat.lt_or_gt_of_ne hij with hlt | hlt
  · exact hp i j hil hjl hlt g ha
  · intro hb
    exact hp j i hjl hil hlt g hb ha

/-- One row put in the place of another one, all the others as they were. -/
theorem Rws.put (h : Rws w0 w L) {i : Nat} {a b : Rw} (hi : L[i]? = some a) (hB : Below w0.heap.size w0 w1)
    (hk : ∀ g, a.v.ownBlock ≠ some g → g < w.heap.size → w1.heap[g]? = w.heap[g]?) (ho : w1.ownsRow w0.heap.size b.T b.k b.v b.n b.xs)
    (hl : ∀ g, b.v.ownBlock = some g → a.v.ownBlock = some g ∨ w.heap.size ≤ g) : Rws w0 w1 (L.set i b) := by
  obtain ⟨hil, hia⟩ := List.getElem?_eq_some_iff.1 hi
  refine ⟨hB, fun r hr => ?_, ?_⟩
  · obtain ⟨j, hj, rfl⟩ := List.getElem_of_mem hr
    rw [List.getElem_set]
    by_cases e : i = j
    · rw [if_pos e]; exact ho
    · rw [if_neg e]
      have hjl : j < L.length := by simpa using hj
      have hjo := h.own L[j] (List.getElem_mem hjl)
      refine own_blockR hjo (fun g hg => hk g (fun e2 => ?_) (hjo.lt g hg).2)
      exact h.ne hi (List.getElem?_eq_getElem hjl) e e2 hg
  · rw [List.pairwise_iff_getElem]
    intro p q hp hq hpq g hg
    rw [List.length_set] at hp hq
    rw [List.getElem_set] at hg ⊢
    have key : ∀ j (hj : j < L.length), i ≠ j → b.v.ownBlock = some g → L[j].v.ownBlock = some g → False := fun j hj e hb hjg => by
      rcases hl g hb with h1 | h1
      · exact h.ne hi (List.getElem?_eq_getElem hj) e h1 hjg
      · have := ((h.own L[j] (List.getElem_mem hj)).lt g hjg).2; omega
    by_cases e1 : i = p
    · rw [if_pos e1] at hg
      rw [if_neg (by omega)]
      exact fun hq2 => key q hq (by omega) hg hq2
    · rw [if_neg e1] at hg
      by_cases e2 : i = q
      · rw [if_pos e2]
        exact fun hb => key p hp e1 hb hg
      · rw [if_neg e2]
        exact h.ne (List.getElem?_eq_getElem hp) (List.getElem?_eq_getElem hq) (by omega) hg

/-- A cell of a row is written. -/
theorem Rws.set (h : Rws w0 w L) (i : Nat) {T : TypeId} {k n m g c : Nat} {xs : List Value} (hi : L[i]? = some ⟨T, k, .slice (some ⟨g, 0, none⟩) m c, n, xs⟩) (j : Nat) (u : Value) :
    Rws w0 (w.setCell ⟨g, j, none⟩ u) (L.set i ⟨T, k, .slice (some ⟨g, 0, none⟩) m c, n, xs.set j u⟩) := by
  have ho := h.get hi
  have hmn : m = n := by
    rcases ho.2 with ⟨h2, _⟩ | ⟨g', cap', cur, hv, _⟩
    · simp at h2
    · simp only [Value.slice.injEq] at hv; exact hv.2.1
  subst hmn
  obtain ⟨h1, h2⟩ := ho.stored j u
  have hg := (ho.lt g rfl).1
  refine h.put hi (h.bel.setCell hg _) (fun b hb _ => Below.heap_setCell _ _ _ _ (fun e => hb (by simp [Value.ownBlock, e]))) h1 (fun b hb => .inl hb)

/-- A row has grown, in a world (w2) that grew out of the known one (w). -/
theorem Rws.grown {w2 : World} (h : Rws w0 w L) (hB2 : Below w.heap.size w w2) (i : Nat) {T : TypeId} {k n n' : Nat} {v v' : Value} {xs xs' : List Value} (hi : L[i]? = some ⟨T, k, v, n, xs⟩) (ho : w1.ownsRow w0.heap.size T k v' n' xs') (hg : w2.grownBy w1 v.ownBlock)
    (hl : ∀ g, v'.ownBlock = some g → v.ownBlock = some g ∨ w.heap.size ≤ g) : Rws w0 w1 (L.set i ⟨T, k, v', n', xs'⟩) :=
  h.put hi ((h.bel.trans (hB2.mono h.bel.size)).grown hg (Nat.le_trans h.bel.size hB2.size) (fun b hb => ((h.get hi).lt b hb).1))
    (fun b hb hl => (hg.block b (Nat.lt_of_lt_of_le hl hB2.size) (fun e => hb e.symm)).trans (hB2.block b hl)) ho hl

/-- A new row. -/
theorem Rws.add (h : Rws w0 w L) {T : TypeId} {k n : Nat} {v : Value} {xs : List Value} (hB : Below w.heap.size w w1) (ho : w1.ownsRow w.heap.size T k v n xs) : Rws w0 w1 (⟨T, k, v, n, xs⟩ :: L) where
  bel := h.bel.trans (hB.mono h.bel.size)
  own r hr := by
    rcases List.mem_cons.1 hr with rfl | hr
    · exact own_mono ho h.bel.size
    · exact own_below (h.own r hr) hB
  apart := by
    refine List.pairwise_cons.2 ⟨fun b hb g hg hg2 => ?_, h.apart⟩
    have := (ho.lt g hg).1
    have := ((h.own b hb).lt g hg2).2
    omega
/-- .. that is nil. -/
theorem Rws.addNil (h : Rws w0 w L) (T : TypeId) (k : Nat) : Rws w0 w (⟨T, k, .slice none 0 0, 0, []⟩ :: L) :=
  h.add (Below.refl _ _) (World.ownsRow_nil _ _ _ _)
/-- .. a block of cells that has just been laid. -/
theorem Rws.addLit (h : Rws w0 w L) (cs : Array Value) (T : TypeId) {k n : Nat} (hm : n ≤ maxLen) (hs : cs.size = n * k) : Rws w0 (w.alloc (.cells cs T)) (⟨T, k, .slice (some ⟨w.heap.size, 0, none⟩) n n, n, cs.toList⟩ :: L) :=
  h.add ((Below.refl _ _).alloc (Nat.le_refl _) _) (World.ownsRow_lit w cs n (Nat.le_refl _) hm hs)

/-- The rows in another order. -/
theorem Rws.perm {L' : List Rw} (h : Rws w0 w L) (hp : L.Perm L') : Rws w0 w L' :=
  ⟨h.bel, fun r hr => h.own r (hp.mem_iff.2 hr), h.apart.perm hp (fun {_ _} h1 g hg hg2 => h1 g hg2 hg)⟩
/-- Fewer rows. -/
theorem Rws.sub {L' : List Rw} (h : Rws w0 w L) (hs : L'.Sublist L) : Rws w0 w L' :=
  ⟨h.bel, fun r hr => h.own r (hs.subset hr), h.apart.sublist hs⟩

/-- What a row's slice looks like, and where it lies. -/
theorem Rws.form (h : Rws w0 w L) {i : Nat} {T : TypeId} {k n : Nat} {v : Value} {xs : List Value} (hi : L[i]? = some ⟨T, k, v, n, xs⟩) (hn : 0 < n) : ∃ g c, v = .slice (some ⟨g, 0, none⟩) n c ∧ n ≤ c ∧ c ≤ maxLen ∧ w0.heap.size ≤ g ∧ g < w.heap.size := by
  have ho := h.get hi
  rcases ho.2 with ⟨_, h2⟩ | ⟨g, c, cur, hv, hb, hg, h3, h4, _⟩
  · have h2 : n = 0 := h2
    omega
  · exact ⟨g, c, hv, h3, h4, hb, (Array.getElem?_eq_some_iff.1 hg).1⟩
/-- A cell of a row reads. -/
theorem Rws.cell (h : Rws w0 w L) {i : Nat} {T : TypeId} {k n m g c : Nat} {xs : List Value} (hi : L[i]? = some ⟨T, k, .slice (some ⟨g, 0, none⟩) m c, n, xs⟩) {j : Nat} {u : Value} (hj : xs[j]? = some u) : w.cell? ⟨g, j, none⟩ = some u := by
  have ho := h.get hi
  have := ho.cells rfl j u hj
  have hadd : (⟨g, 0, none⟩ : Addr).add j = ⟨g, j, none⟩ := by unfold Addr.add; split <;> simp_all
  rwa [hadd] at this
theorem Rws.fz (h : Rws w0 w L) {i : Nat} {T : TypeId} {k n m g c : Nat} {xs : List Value} (hi : L[i]? = some ⟨T, k, .slice (some ⟨g, 0, none⟩) m c, n, xs⟩) (j : Nat) : w.frozen? ⟨g, j, none⟩ = false := by
  have ho := h.get hi
  rcases ho.2 with ⟨h2, _⟩ | ⟨g', c', cur, hv, _, hg, _⟩
  · simp at h2
  · simp only [Value.slice.injEq, Option.some.injEq, Addr.mk.injEq, and_true] at hv
    obtain ⟨rfl, _⟩ := hv
    simp [World.frozen?, hg]
theorem Rws.lt (h : Rws w0 w L) {i : Nat} {T : TypeId} {k n m g c : Nat} {xs : List Value} (hi : L[i]? = some ⟨T, k, .slice (some ⟨g, 0, none⟩) m c, n, xs⟩) : w0.heap.size ≤ g ∧ g < w.heap.size := (h.get hi).lt g rfl
theorem Rws.ne' (h : Rws w0 w L) {i j : Nat} {T T' : TypeId} {k n m g c k' n' m' g' c' : Nat} {xs xs' : List Value} (hi : L[i]? = some ⟨T, k, .slice (some ⟨g, 0, none⟩) m c, n, xs⟩) (hj : L[j]? = some ⟨T', k', .slice (some ⟨g', 0, none⟩) m' c', n', xs'⟩) (hij : i ≠ j) : g ≠ g' := fun e =>
  h.ne hi hj hij rfl (by simp [Value.ownBlock, e])
/-- A row reads as a list. -/
theorem Rws.sl (h : Rws w0 w L) {α : Type} {enc : α → List Value} {i : Nat} {T : TypeId} {k n : Nat} {v : Value} {ys : List α} (hi : L[i]? = some ⟨T, k, v, n, ys.flatMap enc⟩) (hk : ∀ x, (enc x).length = k) (hn : n = ys.length) :
    ∃ a c b, v = .slice a ys.length c ∧ ys.length ≤ c ∧ c ≤ maxLen ∧ SlAt enc k w a b 0 ys ∧ (0 < ys.length → w0.heap.size ≤ b) := by
  subst hn
  exact slAt_own hk (h.get hi)
end

/-- An append, in a plain region: the new value written out, in the old block or in one from B on. -/
theorem wpList_lie {P : Program} {w : World} {ops : Array Oper} {rest : List Oper} {o : Oper} {a : Act} {Q : Exit → Act → World → Prop} (hgd : o.guard = none) (s x : Operand) (t : TypeId)
    (ho : o.op = .call { callee := .builtin .append, args := #[s, x], argTypes := #[t, t] })
    {e : TypeId} {size bytes : Nat} {z : Value} (R : IsRow P t e size bytes z) {base : Nat} (hb0 : base ≤ w.heap.size)
    {v : Value} {n : Nat} {xs : List Value} (hs : a.eval s = v) (hown : w.ownsRow base e size v n xs)
    (ad : Addr) (m c : Nat) (news : List Value) (hx : a.eval x = .slice (some ad) m c) (hl : news.length = m * size) (hnews : ∀ j u, news[j]? = some u → w.cell? (ad.add j) = some u) (h1 : ∀ u ∈ news, u.oneCell' = true) (hm : 0 < m)
    (hbytes : (n + m) * bytes ≤ 140737488355328) (hmax : n + m ≤ maxLen) (B : Nat) (hB : B ≤ w.heap.size)
    (h : ∀ g cap w', w'.ownsRow base e size (.slice (some ⟨g, 0, none⟩) (n + m) cap) (n + m) (xs ++ news) → w.grownBy w' v.ownBlock → (v.ownBlock = some g ∨ B ≤ g) → g < w'.heap.size → wpList P ops Q rest (a.put o.dst (.slice (some ⟨g, 0, none⟩) (n + m) cap)) w') : wpList P ops Q (o :: rest) a w := by
  obtain ⟨i, hi, hz, hsz, hby⟩ := R.info
  exact wpList_plain hgd fun _ hK => wp_append_lies w s x t ho base e i z size bytes R.ht hi hz hsz hby R.zs R.pos v n xs hs hown ad m c news hx hl hnews h1 hm hmax hbytes hb0 w.heap.size rfl (fun g cap w' h2 h3 h4 h5 => hK _ _ (h g cap w' h2 h3 (h4.imp_right (fun e => by omega)) h5))

/-- .. at a step of a region that draws its order. -/
theorem step_lie {P : Program} {w : World} {ops : Array Oper} {o : Oper} {a : Act} {K : Act → World → Prop} {Q : Exit → Act → World → Prop} {F : Prop} (hgd : o.guard = none) (s x : Operand) (t : TypeId)
    (ho : o.op = .call { callee := .builtin .append, args := #[s, x], argTypes := #[t, t] })
    {e : TypeId} {size bytes : Nat} {z : Value} (R : IsRow P t e size bytes z) {base : Nat} (hb0 : base ≤ w.heap.size)
    {v : Value} {n : Nat} {xs : List Value} (hs : a.eval s = v) (hown : w.ownsRow base e size v n xs)
    (ad : Addr) (m c : Nat) (news : List Value) (hx : a.eval x = .slice (some ad) m c) (hl : news.length = m * size) (hnews : ∀ j u, news[j]? = some u → w.cell? (ad.add j) = some u) (h1 : ∀ u ∈ news, u.oneCell' = true) (hm : 0 < m)
    (hbytes : (n + m) * bytes ≤ 140737488355328) (hmax : n + m ≤ maxLen) (B : Nat) (hB : B ≤ w.heap.size)
    (h : ∀ g cap w', w'.ownsRow base e size (.slice (some ⟨g, 0, none⟩) (n + m) cap) (n + m) (xs ++ news) → w.grownBy w' v.ownBlock → (v.ownBlock = some g ∨ B ≤ g) → g < w'.heap.size → K (a.put o.dst (.slice (some ⟨g, 0, none⟩) (n + m) cap)) w') :
    if Region.wanted o (yielded ops a.tmps) = true then Oper.wp P o a w K Q else F := by
  have hw : Region.wanted o (yielded ops a.tmps) = true := by simp [Region.wanted, hgd]
  rw [if_pos hw]
  obtain ⟨i, hi, hz, hsz, hby⟩ := R.info
  exact wp_append_lies w s x t ho base e i z size bytes R.ht hi hz hsz hby R.zs R.pos v n xs hs hown ad m c news hx hl hnews h1 hm hmax hbytes hb0 w.heap.size rfl (fun g cap w' h2 h3 h4 h5 => h g cap w' h2 h3 (h4.imp_right (fun e => by omega)) h5)
end Go.Proofs.YtmlmjhmdjieigaaGreatDoor

namespace Go.Proofs.YtmlmjhmdjieigaaGreatDoor
open Go.RowKit Pl

/-- The row ob of m slices; the l-th owns the list f l. -/
def FR (ob m : Nat) (vs : Nat → Value) (f : Nat → List Int) : List Rw :=
  ⟨27, 1, .slice (some ⟨ob, 0, none⟩) m m, m, (List.range m).map vs⟩ :: (List.range m).map (fun l => (⟨3, 1, vs l, (f l).length, (f l).flatMap encI⟩ : Rw))

theorem range_map_set {α : Type} {m l : Nat} (g : Nat → α) (x : α) : ((List.range m).map g).set l x = (List.range m).map (upd g l x) := by
  apply List.ext_getElem?
  intro i
  rw [List.getElem?_set]
  by_cases h : i < m
  · by_cases e : l = i
    · subst e; simp [h, upd]
    · rw [if_neg e]
      simp [h, upd, show ¬ i = l from fun e2 => e e2.symm]
  · by_cases e : l = i
    · subst e; simp [h]
    · rw [if_neg e]; simp [h]

theorem FR.set {ob m l : Nat} {vs : Nat → Value} {f : Nat → List Int} (v : Value) (ys : List Int) (rest : List Rw) (hl : l < m) :
    (((FR ob m vs f ++ rest).set (l + 1) ⟨3, 1, v, ys.length, ys.flatMap encI⟩).set 0 ⟨27, 1, .slice (some ⟨ob, 0, none⟩) m m, m, ((List.range m).map vs).set l v⟩) = FR ob m (upd vs l v) (upd f l ys) ++ rest := by
  unfold FR
  rw [List.cons_append, List.set_cons_succ, List.set_cons_zero, List.set_append_left _ _ (by simpa using hl), range_map_set, range_map_set, List.cons_append]
  congr 2
  apply List.map_congr_left
  intro i _
  unfold upd
  split <;> rfl

section
variable {w0 w w' w1 w2 : World} {rest : List Rw} {ob m : Nat} {vs : Nat → Value} {f : Nat → List Int}

theorem Rws.frMade (h : Rws w0 w rest) (hm : m ≤ maxLen) : Rws w0 (w.alloc (.cells (madeCells #[.slice none 0 0] m) 27)) (FR w.heap.size m (fun _ => .slice none 0 0) (fun _ => []) ++ rest) := by
  have key : ∀ k, Rws w0 w ((List.range k).map (fun _ => (⟨3, 1, .slice none 0 0, 0, []⟩ : Rw)) ++ rest) := fun k => by
    induction k with
    | zero => exact h
    | succ k ih =>
      rw [List.range_succ_eq_map, List.map_cons, List.map_map]
      exact ih.addNil _ _
  have h2 := (key m).addLit (madeCells #[.slice none 0 0] m) 27 (k := 1) (n := m) hm (by simp [size_madeCells])
  have e : (madeCells #[.slice none 0 0] m).toList = (List.range m).map (fun _ => (.slice none 0 0 : Value)) := by
    rw [toList_madeCells_one]
    apply List.ext_getElem?
    intro i
    by_cases hi : i < m <;> simp [hi]
  rw [e] at h2
  exact h2

theorem Rws.frCell (h : Rws w0 w (FR ob m vs f ++ rest)) {l : Nat} (hl : l < m) : w.cell? ⟨ob, l, none⟩ = some (vs l) ∧ w.frozen? ⟨ob, l, none⟩ = false ∧ ob < w.heap.size ∧ w0.heap.size ≤ ob :=
  ⟨h.cell (i := 0) rfl (by simp [hl]), h.fz (i := 0) rfl l, (h.lt (i := 0) rfl).2, (h.lt (i := 0) rfl).1⟩
theorem Rws.frOwn (h : Rws w0 w (FR ob m vs f ++ rest)) {l : Nat} (hl : l < m) : w.ownsRow w0.heap.size 3 1 (vs l) (f l).length ((f l).flatMap encI) :=
  h.get (i := l + 1) (r := ⟨3, 1, vs l, (f l).length, (f l).flatMap encI⟩) (by unfold FR; rw [List.cons_append, List.getElem?_cons_succ, List.getElem?_append_left (by simpa using hl)]; simp [hl])
/-- An append to the l-th list: behind it, and behind the store. -/
theorem Rws.frGrow {w2 : World} (h : Rws w0 w (FR ob m vs f ++ rest)) (hB2 : Below w.heap.size w w2) {l : Nat} (hl : l < m) {v' : Value} {ys : List Int} (ho : w1.ownsRow w0.heap.size 3 1 v' ys.length (ys.flatMap encI)) (hg : w2.grownBy w1 (vs l).ownBlock)
    (hh : ∀ g, v'.ownBlock = some g → (vs l).ownBlock = some g ∨ w.heap.size ≤ g) :
    w1.cell? ⟨ob, l, none⟩ = some (vs l) ∧ w1.frozen? ⟨ob, l, none⟩ = false ∧ ob < w1.heap.size ∧ Rws w0 (w1.setCell ⟨ob, l, none⟩ v') (FR ob m (upd vs l v') (upd f l ys) ++ rest) := by
  have hi : (FR ob m vs f ++ rest)[l + 1]? = some (⟨3, 1, vs l, (f l).length, (f l).flatMap encI⟩ : Rw) := by
    unfold FR; rw [List.cons_append, List.getElem?_cons_succ, List.getElem?_append_left (by simpa using hl)]; simp [hl]
  have hs := h.grown hB2 (l + 1) hi ho hg hh
  have h0 : ((FR ob m vs f ++ rest).set (l + 1) ⟨3, 1, v', ys.length, ys.flatMap encI⟩)[0]? = some (⟨27, 1, .slice (some ⟨ob, 0, none⟩) m m, m, (List.range m).map vs⟩ : Rw) := by
    unfold FR; rw [List.cons_append, List.set_cons_succ]; rfl
  have h2 := hs.set 0 h0 l v'
  rw [FR.set v' ys rest hl] at h2
  exact ⟨hs.cell h0 (by simp [hl]), hs.fz h0 l, (hs.lt h0).2, h2⟩
end
end Go.Proofs.YtmlmjhmdjieigaaGreatDoor

namespace Go.Proofs.YtmlmjhmdjieigaaGreatDoor
open Go.RowKit Pl

theorem slAt_flat {α : Type} {enc : α → List Value} {k : Nat} {w : World} {a : Option Addr} {b off : Nat} {xs : List α} (hk : ∀ x, (enc x).length = k) (h : SlAt enc k w a b off xs) (j : Nat) (u : Value) (hu : (xs.flatMap enc)[j]? = some u) :
    w.cell? ((⟨b, off, none⟩ : Addr).add j) = some u := by
  have hj := (List.getElem?_eq_some_iff.1 hu).1
  rw [length_flatMap hk] at hj
  have hk0 : 0 < k := by
    rcases Nat.eq_zero_or_pos k with rfl | h
    · simp at hj
    · exact h
  have hi : j / k < xs.length := by rw [Nat.div_lt_iff_lt_mul hk0]; exact hj
  obtain ⟨x, hx⟩ := getElem?_of_lt hi
  have hm : j % k < (enc x).length := by rw [hk]; exact Nat.mod_lt _ hk0
  have h1 := getElem?_flatMap hk xs (j / k) x hx (j % k) _ (List.getElem?_eq_getElem hm)
  rw [show j / k * k + j % k = j from Nat.div_add_mod' j k] at h1
  rw [hu] at h1
  have h2 := h.cell (j / k) x hx (j % k) u (by rw [List.getElem?_eq_getElem hm, ← h1])
  rw [show off + j / k * k + j % k = off + j by rw [Nat.add_assoc, Nat.div_add_mod']] at h2
  have hadd : (⟨b, off, none⟩ : Addr).add j = ⟨b, off + j, none⟩ := by unfold Addr.add; split <;> simp_all
  rw [hadd]; exact h2

theorem cell_alloc_of {w : World} {o : Obj} {a : Addr} {u : Value} (h : w.cell? a = some u) : (w.alloc o).cell? a = some u := by
  rw [World.cell?_alloc_old _ _ _ (Nat.ne_of_lt (World.block_lt_of_cell? _ _ h))]; exact h

set_option maxRecDepth 100000 in
theorem cloneE_any {a : Option Addr} {b off c : Nat} {xs : List E} {w : World} (h : SlAt encE 3 w a b off xs) (hl : xs.length ≤ 1000000) :
    Calls Tryz.prog 41 #[.slice a xs.length c] w fun e w' => ∃ v, e = .returned v ∧ w'.ownsRow w.heap.size 54 3 v xs.length (xs.flatMap encE) ∧ Below w.heap.size w w' := by
  cases a with
  | none =>
    have hx : xs = [] := by
      cases xs with
      | nil => rfl
      | cons x l => have := h.ad (by simp); cases this
    subst hx
    have heq := fun (w : World) => Lib.run_eql_slice_nil (P := Tryz.prog) w 22 54 none 0 c 0 0 Tryz.underlying22
    clear h
    go_enter Tryz.func41, Tryz.ntmps41
    go_wp2
    go_ret
    exact ⟨_, rfl, World.ownsRow_nil _ _ _ _, Below.refl _ _⟩
  | some ad =>
    have heq := fun (w : World) => Lib.run_eql_slice_nil (P := Tryz.prog) w 22 54 (some ad) xs.length c 0 0 Tryz.underlying22
    have hnews : ∀ j u, (xs.flatMap encE)[j]? = some u → w.cell? (ad.add j) = some u := by
      intro j u hu
      have hj := (List.getElem?_eq_some_iff.1 hu).1
      rw [length_flatMap lenE] at hj
      have hp : 0 < xs.length := by cases xs <;> simp at *
      have := h.ad hp
      simp at this; subst this
      exact slAt_flat lenE h j u hu
    have hlen : (xs.flatMap encE).length = xs.length * 3 := length_flatMap lenE xs
    have h1 : ∀ u ∈ xs.flatMap encE, u.oneCell' = true := by
      intro u hu
      obtain ⟨x, _, hx⟩ := List.mem_flatMap.1 hu
      simp [encE] at hx
      rcases hx with rfl | rfl | rfl <;> rfl
    have HN := Lib.hid hnews; have HL := Lib.hid hlen; have H1 := Lib.hid h1
    clear h hnews hlen h1
    generalize xs.flatMap encE = news at *
    go_enter Tryz.func41, Tryz.ntmps41
    go_wp2_with (at_builtin; refine wpList_app rfl _ _ _ rfl rowE ((Below.refl w.heap.size w).alloc (Nat.le_refl _) _) (by simp) rfl (World.ownsRow_made w #[] 0 (Nat.le_refl _) (by decide) (by simp)) ad xs.length c news rfl HL.out (fun j u hu => cell_alloc_of (HN.out j u hu)) H1.out (by omega) (by unfold maxLen; omega) ?_; intro v' w1 hown1 hb1 _)
    go_ret
    exact ⟨_, rfl, by simpa using hown1, hb1⟩

set_option maxRecDepth 100000 in
theorem cloneS_any {a : Option Addr} {b off c : Nat} {xs : List S} {w : World} (h : SlAt encS 2 w a b off xs) (hl : xs.length ≤ 1000000) :
    Calls Tryz.prog 70 #[.slice a xs.length c] w fun e w' => ∃ v, e = .returned v ∧ w'.ownsRow w.heap.size 65 2 v xs.length (xs.flatMap encS) ∧ Below w.heap.size w w' := by
  cases a with
  | none =>
    have hx : xs = [] := by
      cases xs with
      | nil => rfl
      | cons x l => have := h.ad (by simp); cases this
    subst hx
    have heq := fun (w : World) => Lib.run_eql_slice_nil (P := Tryz.prog) w 36 65 none 0 c 0 0 Tryz.underlying36
    clear h
    go_enter Tryz.func70, Tryz.ntmps70
    go_wp2
    go_ret
    exact ⟨_, rfl, World.ownsRow_nil _ _ _ _, Below.refl _ _⟩
  | some ad =>
    have heq := fun (w : World) => Lib.run_eql_slice_nil (P := Tryz.prog) w 36 65 (some ad) xs.length c 0 0 Tryz.underlying36
    have hnews : ∀ j u, (xs.flatMap encS)[j]? = some u → w.cell? (ad.add j) = some u := by
      intro j u hu
      have hj := (List.getElem?_eq_some_iff.1 hu).1
      rw [length_flatMap lenS] at hj
      have hp : 0 < xs.length := by cases xs <;> simp at *
      have := h.ad hp
      simp at this; subst this
      exact slAt_flat lenS h j u hu
    have hlen : (xs.flatMap encS).length = xs.length * 2 := length_flatMap lenS xs
    have h1 : ∀ u ∈ xs.flatMap encS, u.oneCell' = true := by
      intro u hu
      obtain ⟨x, _, hx⟩ := List.mem_flatMap.1 hu
      simp [encS] at hx
      rcases hx with rfl | rfl <;> rfl
    have HN := Lib.hid hnews; have HL := Lib.hid hlen; have H1 := Lib.hid h1
    clear h hnews hlen h1
    generalize xs.flatMap encS = news at *
    go_enter Tryz.func70, Tryz.ntmps70
    go_wp2_with (at_builtin; refine wpList_app rfl _ _ _ rfl rowS ((Below.refl w.heap.size w).alloc (Nat.le_refl _) _) (by simp) rfl (World.ownsRow_made w #[] 0 (Nat.le_refl _) (by decide) (by simp)) ad xs.length c news rfl HL.out (fun j u hu => cell_alloc_of (HN.out j u hu)) H1.out (by omega) (by unfold maxLen; omega) ?_; intro v' w1 hown1 hb1 _)
    go_ret
    exact ⟨_, rfl, by simpa using hown1, hb1⟩

end Go.Proofs.YtmlmjhmdjieigaaGreatDoor

namespace Go.Proofs.YtmlmjhmdjieigaaGreatDoor
open Go.RowKit Pl

theorem slAt_sub {α : Type} {enc : α → List Value} {k : Nat} {w : World} {a : Option Addr} {b off : Nat} {xs : List α} (h : SlAt enc k w a b off xs) (lo m : Nat) :
    SlAt enc k w (some ⟨b, off + lo * k, none⟩) b (off + lo * k) ((xs.drop lo).take m) where
  ad _ := rfl
  lt hl := h.lt (by simp at hl; omega)
  cell i x hx j u hu := by
    rw [List.getElem?_take] at hx
    split at hx
    · rw [List.getElem?_drop] at hx
      have := h.cell (lo + i) x hx j u hu
      rw [Nat.add_mul] at this
      rw [show off + lo * k + i * k + j = off + (lo * k + i * k) + j by omega]
      exact this
    · cases hx

/-- The rows of a graph, in memory: all the steps, and from where on each row lies. -/
structure RowsAt (w : World) (va vf : Value) (n : Nat) (all : List S) (fr : Nat → Nat) : Prop where
  alls : ∃ a c b off, va = .slice a all.length c ∧ all.length ≤ c ∧ c ≤ maxLen ∧ SlAt encS 2 w a b off all
  from_ : ∃ b, vf = .slice (some ⟨b, 0, none⟩) (n + 1) (n + 1) ∧ b < w.heap.size ∧ ∀ i, i ≤ n → w.cell? ⟨b, i, none⟩ = some (.int .i64 (fr i))
  mono : ∀ i, i < n → fr i ≤ fr (i + 1)
  top : ∀ i, i ≤ n → fr i ≤ all.length
  small : all.length ≤ 10000
  n_le : n ≤ 1000

def rowOf (all : List S) (fr : Nat → Nat) (i : Nat) : List S := (all.drop (fr i)).take (fr (i + 1) - fr i)

theorem RowsAt.below {w w' : World} {va vf : Value} {n : Nat} {all : List S} {fr : Nat → Nat} (h : RowsAt w va vf n all fr) (hB : Below w.heap.size w w') : RowsAt w' va vf n all fr := by
  obtain ⟨a, c, b, off, h1, h2, h3, h4⟩ := h.alls
  obtain ⟨b', h5, h6, h7⟩ := h.from_
  exact ⟨⟨a, c, b, off, h1, h2, h3, h4.below hB (Nat.le_refl _)⟩, ⟨b', h5, Nat.lt_of_lt_of_le h6 hB.size, fun i hi => by rw [hB.cell (p := ⟨b', i, none⟩) h6]; exact h7 i hi⟩, h.mono, h.top, h.small, h.n_le⟩

/-- What a call answers: a list of steps that is read at some place. -/
def StepsRet (w' : World) (e : Ending) (ss : List S) : Prop := ∃ a c b off, e = .returned (.slice a ss.length c) ∧ ss.length ≤ c ∧ c ≤ maxLen ∧ SlAt encS 2 w' a b off ss

theorem stepsRet_nil {w' : World} : StepsRet w' (.returned (.slice none 0 0)) [] := ⟨none, 0, 0, 0, rfl, Nat.le_refl _, by unfold maxLen; omega, slAt_nil _ _ _ _⟩

set_option maxRecDepth 100000 in
theorem row_out {w0 w : World} (va vf : Value) {n : Nat} {all : List S} {fr : Nat → Nat} (h : RowsAt w0 va vf n all fr) (_hB : Below w0.heap.size w0 w) (i : Int) (hi : i < 0 ∨ (n : Int) ≤ i) :
    Calls Tryz.prog 77 #[.agg #[va, vf], .int .i64 i] w fun e w' => StepsRet w0 e [] ∧ Below w.heap.size w w' := by
  obtain ⟨a, c, b, off, rfl, h2, h3, h4⟩ := h.alls
  obtain ⟨b', rfl, h6, h7⟩ := h.from_
  have hn := h.n_le
  clear h h4 h7 _hB
  rcases hi with hi | hi
  · go_enter Tryz.func77, Tryz.ntmps77
    go_wp2
    go_ret
    exact ⟨stepsRet_nil, (Below.refl _ _).alloc (Nat.le_refl _) _⟩
  · have hi0 : ¬ i < 0 := by omega
    go_enter Tryz.func77, Tryz.ntmps77
    go_wp2
    go_ret
    exact ⟨stepsRet_nil, (Below.refl _ _).alloc (Nat.le_refl _) _⟩

set_option maxRecDepth 100000 in
theorem row_in {w0 w : World} (va vf : Value) {n : Nat} {all : List S} {fr : Nat → Nat} (h : RowsAt w0 va vf n all fr) (hB : Below w0.heap.size w0 w) (i : Nat) (hi : i < n) :
    Calls Tryz.prog 77 #[.agg #[va, vf], .int .i64 i] w fun e w' => StepsRet w0 e (rowOf all fr i) ∧ Below w.heap.size w w' := by
  obtain ⟨a, c, b, off, rfl, h2, h3, h4⟩ := h.alls
  obtain ⟨b', rfl, h6, h7⟩ := h.from_
  have hn := h.n_le
  have c0 : w.cell? ⟨b', i, none⟩ = _ := (hB.cell (p := ⟨b', i, none⟩) h6).trans (h7 i (by omega))
  have c1 : w.cell? ⟨b', i + 1, none⟩ = _ := (hB.cell (p := ⟨b', i + 1, none⟩) h6).trans (h7 (i + 1) (by omega))
  replace h6 : b' < w.heap.size := Nat.lt_of_lt_of_le h6 hB.size
  have hm := h.mono i hi
  have ht := h.top (i + 1) (by omega)
  have hs := h.small
  unfold rowOf
  generalize fr i = lo at *
  generalize fr (i + 1) = hi' at *
  have hlen : ((all.drop lo).take (hi' - lo)).length = hi' - lo := by simp; omega
  have k1 : (i : Int) < (n : Int) := by omega
  have k2 : (0 : Int) ≤ (i : Int) + 1 := by omega
  have k6 : (i : Int) < (n : Int) + 1 := by omega
  have k3 : IntKind.i64.wrap ((i : Int) + 1) = (i : Int) + 1 := IntWalk.i64_in _ (by omega)
  have k4 : ((i : Int) + 1).toNat = i + 1 := by omega
  have k7 : (lo : Int) ≤ (hi' : Int) := by omega
  have k8 : (hi' : Int) ≤ (c : Int) := by omega
  by_cases heq : lo = hi'
  · subst heq
    have hrow : (all.drop lo).take (lo - lo) = [] := by simp
    rw [hrow]
    clear h h4 h7 hlen hrow hB
    go_enter Tryz.func77, Tryz.ntmps77
    go_wp2_with fail
    go_quiet (fail)
    go_wp2
    all_goals
      go_ret
      exact ⟨⟨a, _, 0, 0, rfl, Nat.le_refl _, by unfold maxLen; omega, slAt_nil _ _ _ _⟩, below_drewN ((Below.refl _ _).alloc (Nat.le_refl _) _) _⟩
  · obtain rfl := h4.ad (by omega)
    have k9 : (lo : Int) < (hi' : Int) := by omega
    have k10 : (lo : Int) < (c : Int) := by omega
    have k11 : lo < hi' := by omega
    have H4 := Lib.hid h4; have HL := Lib.hid hlen
    clear h h4 h7 hlen hB
    go_enter Tryz.func77, Tryz.ntmps77
    go_wp2_with fail
    go_quiet (fail)
    go_wp2
    go_ret
    refine ⟨⟨some ⟨b, off + lo * 2, none⟩, hi' - lo, b, off + lo * 2, ?_, by rw [HL.out]; exact Nat.le_refl _, by omega, slAt_sub H4.out lo (hi' - lo)⟩, below_drewN ((Below.refl _ _).alloc (Nat.le_refl _) _) _⟩
    rw [HL.out]
    first | rfl | (simp; done)
end Go.Proofs.YtmlmjhmdjieigaaGreatDoor
