/-
  Lemmas.
-/
import Derived.Test.YtgikimbafakmcaaGreatDoorGFault
import Derived.Deep.AppendLies
import Derived.Deep.RegionLaw
import Derived.Test.YtgikimbafakmcaaGreatDoorGPl1
import Derived.Test.YtgikimbafakmcaaGreatDoorGGraphA
set_option maxRecDepth 100000
namespace Go.Proofs.YtgikimbafakmcaaGreatDoor
open Go.RowKit Pl
structure Rw where
  T : TypeId
  k : Nat
  v : Value
  n : Nat
  xs : List Value
structure Rws (w0 w : World) (L : List Rw) : Prop where
  bel : Below w0.heap.size w0 w
  own : ∀ r ∈ L, w.ownsRow w0.heap.size r.T r.k r.v r.n r.xs
  apart : L.Pairwise (fun a b => ∀ g, a.v.ownBlock = some g -> b.v.ownBlock ≠ some g)
section
variable {w0 w w' w1 : World} {L : List Rw} {r : Rw}
theorem own_blockR {base : Nat} {e : TypeId} {k n : Nat} {v : Value} {xs : List Value} (h : w.ownsRow base e k v n xs) (hb : ∀ g, v.ownBlock = some g -> w'.heap[g]? = w.heap[g]?) : w'.ownsRow base e k v n xs := by
 refine ⟨h.1, ?_⟩
 rcases h.2 with h2 | ⟨g, cap, cur, hv, hbg, hg, r⟩
 · exact .inl h2
 · exact .inr ⟨g, cap, cur, hv, hbg, by rw [hb g (by rw [hv]; rfl)]; exact hg, r⟩
theorem Rws.call (h : Rws w0 w L) (hB : Below w.heap.size w w') : Rws w0 w' L :=
  ⟨h.bel.trans (hB.mono h.bel.size), fun r hr => own_below (h.own r hr) hB, h.apart⟩
theorem Rws.drew (h : Rws w0 w L) : Rws w0 w.drew L := h.call (Below.refl _ _).drew
theorem Rws.drewN (h : Rws w0 w L) (m : Nat) : Rws w0 (w.drewN m) L := h.call (bdrew (Below.refl _ _))
theorem Rws.alloc (h : Rws w0 w L) (o : Obj) : Rws w0 (w.alloc o) L := h.call ((Below.refl _ _).alloc (Nat.le_refl _) o)
theorem Rws.get (h : Rws w0 w L) {i : Nat} (hi : L[i]? = some r) : w.ownsRow w0.heap.size r.T r.k r.v r.n r.xs := h.own r (List.mem_of_getElem? hi)
theorem Rws.nil (hB : Below w0.heap.size w0 w) : Rws w0 w [] := ⟨hB, fun _ h => by simp at h, .nil⟩
theorem Rws.ne (h : Rws w0 w L) {i j : Nat} {a b : Rw} (hi : L[i]? = some a) (hj : L[j]? = some b) (hij : i ≠ j) {g : Nat} (ha : a.v.ownBlock = some g) : b.v.ownBlock ≠ some g := by
 have hp := List.pairwise_iff_getElem.1 h.apart
 obtain ⟨hil, rfl⟩ := List.getElem?_eq_some_iff.1 hi
 obtain ⟨hjl, rfl⟩ := List.getElem?_eq_some_iff.1 hj
 rcases Nat.lt_or_gt_of_ne hij with hlt | hlt
 · exact hp i j hil hjl hlt g ha
 · intro hb
   exact hp j i hjl hil hlt g hb ha
theorem Rws.put (h : Rws w0 w L) {i : Nat} {a b : Rw} (hi : L[i]? = some a) (hB : Below w0.heap.size w0 w1)
    (hk : ∀ g, a.v.ownBlock ≠ some g -> g < w.heap.size -> w1.heap[g]? = w.heap[g]?) (ho : w1.ownsRow w0.heap.size b.T b.k b.v b.n b.xs)
    (hl : ∀ g, b.v.ownBlock = some g -> a.v.ownBlock = some g ∨ w.heap.size <= g) : Rws w0 w1 (L.set i b) := by
 obtain ⟨hil, hia⟩ := List.getElem?_eq_some_iff.1 hi
 refine ⟨hB, fun r hr => ?_, ?_⟩
 · (
 obtain ⟨j, hj, rfl⟩ := List.getElem_of_mem hr
 rw [List.getElem_set]
 by_cases e : i = j
 · rw [if_pos e]; exact ho
 · rw [if_neg e]
   have hjl : j < L.length := by simpa using hj
   have hjo := h.own L[j] (List.getElem_mem hjl)
   refine own_blockR hjo (fun g hg => hk g (fun e2 => ?_) (hjo.lt g hg).2)
   exact h.ne hi (List.getElem?_eq_getElem hjl) e e2 hg)
 · (
 rw [List.pairwise_iff_getElem]
 intro p q hp hq hpq g hg
 rw [List.length_set] at hp hq
 rw [List.getElem_set] at hg ⊢
 have key : ∀ j (hj : j < L.length), i ≠ j -> b.v.ownBlock = some g -> L[j].v.ownBlock = some g -> False := fun j hj e hb hjg => by (
 rcases hl g hb with h1 | h1
 · exact h.ne hi (List.getElem?_eq_getElem hj) e h1 hjg
 · have := ((h.own L[j] (List.getElem_mem hj)).lt g hjg).2; omega)
 by_cases e1 : i = p
 · rw [if_pos e1] at hg
   rw [if_neg (by omega)]
   exact fun hq2 => key q hq (by omega) hg hq2
 · (
 rw [if_neg e1] at hg
 by_cases e2 : i = q
 · rw [if_pos e2]
   exact fun hb => key p hp e1 hb hg
 · rw [if_neg e2]
   exact h.ne (List.getElem?_eq_getElem hp) (List.getElem?_eq_getElem hq) (by omega) hg))
theorem Rws.set (h : Rws w0 w L) (i : Nat) {T : TypeId} {k n m g c : Nat} {xs : List Value} (hi : L[i]? = some ⟨T, k, .slice (some ⟨g, 0, none⟩) m c, n, xs⟩) (j : Nat) (u : Value) :
    Rws w0 (w.setCell ⟨g, j, none⟩ u) (L.set i ⟨T, k, .slice (some ⟨g, 0, none⟩) m c, n, xs.set j u⟩) := by
 have ho := h.get hi
 have hmn : m = n := by (
 rcases ho.2 with ⟨h2, _⟩ | ⟨g', cap', cur, hv, _⟩
 · simp at h2
 · simp only [Value.slice.injEq] at hv; exact hv.2.1)
 subst hmn
 obtain ⟨h1, h2⟩ := ho.stored j u
 have hg := (ho.lt g rfl).1
 refine h.put hi (h.bel.setCell hg _) (fun b hb _ => Below.heap_setCell _ _ _ _ (fun e => hb (by simp [Value.ownBlock, e]))) h1 (fun b hb => .inl hb)
theorem Rws.grown {w2 : World} (h : Rws w0 w L) (hB2 : Below w.heap.size w w2) (i : Nat) {T : TypeId} {k n n' : Nat} {v v' : Value} {xs xs' : List Value} (hi : L[i]? = some ⟨T, k, v, n, xs⟩) (ho : w1.ownsRow w0.heap.size T k v' n' xs') (hg : w2.grownBy w1 v.ownBlock)
    (hl : ∀ g, v'.ownBlock = some g -> v.ownBlock = some g ∨ w.heap.size <= g) : Rws w0 w1 (L.set i ⟨T, k, v', n', xs'⟩) :=
  h.put hi ((h.bel.trans (hB2.mono h.bel.size)).grown hg (Nat.le_trans h.bel.size hB2.size) (fun b hb => ((h.get hi).lt b hb).1))
    (fun b hb hl => (hg.block b (Nat.lt_of_lt_of_le hl hB2.size) (fun e => hb e.symm)).trans (hB2.block b hl)) ho hl
theorem Rws.add (h : Rws w0 w L) {T : TypeId} {k n : Nat} {v : Value} {xs : List Value} (hB : Below w.heap.size w w1) (ho : w1.ownsRow w.heap.size T k v n xs) : Rws w0 w1 (⟨T, k, v, n, xs⟩ :: L) where
  bel := h.bel.trans (hB.mono h.bel.size)
  own r hr := by
    rcases List.mem_cons.1 hr with rfl | hr
    · exact own_mono ho h.bel.size
    · exact own_below (h.own r hr) hB
  apart := by
    refine List.pairwise_cons.2 ⟨fun b hb g hg hg2 => ?_, h.apart⟩
    have := (ho.lt g hg).1
    have := ((h.own b hb).lt g hg2).2
    omega
theorem Rws.addNil (h : Rws w0 w L) (T : TypeId) (k : Nat) : Rws w0 w (⟨T, k, .slice none 0 0, 0, []⟩ :: L) :=
  h.add (Below.refl _ _) (World.ownsRow_nil _ _ _ _)
theorem Rws.addLit (h : Rws w0 w L) (cs : Array Value) (T : TypeId) {k n : Nat} (hm : n <= maxLen) (hs : cs.size = n * k) : Rws w0 (w.alloc (.cells cs T)) (⟨T, k, .slice (some ⟨w.heap.size, 0, none⟩) n n, n, cs.toList⟩ :: L) :=
  h.add ((Below.refl _ _).alloc (Nat.le_refl _) _) (World.ownsRow_lit w cs n (Nat.le_refl _) hm hs)
theorem Rws.perm {L' : List Rw} (h : Rws w0 w L) (hp : L.Perm L') : Rws w0 w L' :=
  ⟨h.bel, fun r hr => h.own r (hp.mem_iff.2 hr), h.apart.perm hp (fun {_ _} h1 g hg hg2 => h1 g hg2 hg)⟩
theorem Rws.sub {L' : List Rw} (h : Rws w0 w L) (hs : L'.Sublist L) : Rws w0 w L' :=
  ⟨h.bel, fun r hr => h.own r (hs.subset hr), h.apart.sublist hs⟩
theorem Rws.form (h : Rws w0 w L) {i : Nat} {T : TypeId} {k n : Nat} {v : Value} {xs : List Value} (hi : L[i]? = some ⟨T, k, v, n, xs⟩) (hn : 0 < n) : ∃ g c, v = .slice (some ⟨g, 0, none⟩) n c /\ n <= c /\ c <= maxLen /\ w0.heap.size <= g /\ g < w.heap.size := by
 have ho := h.get hi
 rcases ho.2 with ⟨_, h2⟩ | ⟨g, c, cur, hv, hb, hg, h3, h4, _⟩
 · have h2 : n = 0 := h2
   omega
 · exact ⟨g, c, hv, h3, h4, hb, (Array.getElem?_eq_some_iff.1 hg).1⟩
theorem Rws.cell (h : Rws w0 w L) {i : Nat} {T : TypeId} {k n m g c : Nat} {xs : List Value} (hi : L[i]? = some ⟨T, k, .slice (some ⟨g, 0, none⟩) m c, n, xs⟩) {j : Nat} {u : Value} (hj : xs[j]? = some u) : w.cell? ⟨g, j, none⟩ = some u := by
 have ho := h.get hi
 have := ho.cells rfl j u hj
 have hadd : (⟨g, 0, none⟩ : Addr).add j = ⟨g, j, none⟩ := by unfold Addr.add; split <;> simp_all
 rwa [hadd] at this
theorem Rws.fz (h : Rws w0 w L) {i : Nat} {T : TypeId} {k n m g c : Nat} {xs : List Value} (hi : L[i]? = some ⟨T, k, .slice (some ⟨g, 0, none⟩) m c, n, xs⟩) (j : Nat) : w.frozen? ⟨g, j, none⟩ = false := by
 have ho := h.get hi
 rcases ho.2 with ⟨h2, _⟩ | ⟨g', c', cur, hv, _, hg, _⟩
 · simp at h2
 · simp only [Value.slice.injEq, Option.some.injEq, Addr.mk.injEq, and_true] at hv
   obtain ⟨rfl, _⟩ := hv
   simp [World.frozen?, hg]
theorem Rws.lt (h : Rws w0 w L) {i : Nat} {T : TypeId} {k n m g c : Nat} {xs : List Value} (hi : L[i]? = some ⟨T, k, .slice (some ⟨g, 0, none⟩) m c, n, xs⟩) : w0.heap.size <= g /\ g < w.heap.size := (h.get hi).lt g rfl
theorem Rws.ne' (h : Rws w0 w L) {i j : Nat} {T T' : TypeId} {k n m g c k' n' m' g' c' : Nat} {xs xs' : List Value} (hi : L[i]? = some ⟨T, k, .slice (some ⟨g, 0, none⟩) m c, n, xs⟩) (hj : L[j]? = some ⟨T', k', .slice (some ⟨g', 0, none⟩) m' c', n', xs'⟩) (hij : i ≠ j) : g ≠ g' := fun e =>
  h.ne hi hj hij rfl (by simp [Value.ownBlock, e])
theorem Rws.sl (h : Rws w0 w L) {α : Type} {enc : α -> List Value} {i : Nat} {T : TypeId} {k n : Nat} {v : Value} {ys : List α} (hi : L[i]? = some ⟨T, k, v, n, ys.flatMap enc⟩) (hk : ∀ x, (enc x).length = k) (hn : n = ys.length) :
    ∃ a c b, v = .slice a ys.length c /\ ys.length <= c /\ c <= maxLen /\ SlAt enc k w a b 0 ys /\ (0 < ys.length -> w0.heap.size <= b) := by
 subst hn
 exact slAt_own hk (h.get hi)
end
theorem wpList_lie {P : Program} {w : World} {ops : Array Oper} {rest : List Oper} {o : Oper} {a : Act} {Q : Exit -> Act -> World -> Prop} (hgd : o.guard = none) (s x : Operand) (t : TypeId)
    (ho : o.op = .call { callee := .builtin .append, args := #[s, x], argTypes := #[t, t] })
    {e : TypeId} {size bytes : Nat} {z : Value} (R : IsRow P t e size bytes z) {base : Nat} (hb0 : base <= w.heap.size)
    {v : Value} {n : Nat} {xs : List Value} (hs : a.eval s = v) (hown : w.ownsRow base e size v n xs)
    (ad : Addr) (m c : Nat) (news : List Value) (hx : a.eval x = .slice (some ad) m c) (hl : news.length = m * size) (hnews : ∀ j u, news[j]? = some u -> w.cell? (ad.add j) = some u) (h1 : ∀ u ∈ news, u.oneCell' = true) (hm : 0 < m)
    (hbytes : (n + m) * bytes <= 140737488355328) (hmax : n + m <= maxLen) (B : Nat) (hB : B <= w.heap.size)
    (h : ∀ g cap w', w'.ownsRow base e size (.slice (some ⟨g, 0, none⟩) (n + m) cap) (n + m) (xs ++ news) -> w.grownBy w' v.ownBlock -> (v.ownBlock = some g ∨ B <= g) -> g < w'.heap.size -> wpList P ops Q rest (a.put o.dst (.slice (some ⟨g, 0, none⟩) (n + m) cap)) w') : wpList P ops Q (o :: rest) a w := by
 obtain ⟨i, hi, hz, hsz, hby⟩ := R.info
 exact wpList_plain hgd fun _ hK => wp_append_lies w s x t ho base e i z size bytes R.ht hi hz hsz hby R.zs R.pos v n xs hs hown ad m c news hx hl hnews h1 hm hmax hbytes hb0 w.heap.size rfl (fun g cap w' h2 h3 h4 h5 => hK _ _ (h g cap w' h2 h3 (h4.imp_right (fun e => by omega)) h5))
theorem step_lie {P : Program} {w : World} {ops : Array Oper} {o : Oper} {a : Act} {K : Act -> World -> Prop} {Q : Exit -> Act -> World -> Prop} {F : Prop} (hgd : o.guard = none) (s x : Operand) (t : TypeId)
    (ho : o.op = .call { callee := .builtin .append, args := #[s, x], argTypes := #[t, t] })
    {e : TypeId} {size bytes : Nat} {z : Value} (R : IsRow P t e size bytes z) {base : Nat} (hb0 : base <= w.heap.size)
    {v : Value} {n : Nat} {xs : List Value} (hs : a.eval s = v) (hown : w.ownsRow base e size v n xs)
    (ad : Addr) (m c : Nat) (news : List Value) (hx : a.eval x = .slice (some ad) m c) (hl : news.length = m * size) (hnews : ∀ j u, news[j]? = some u -> w.cell? (ad.add j) = some u) (h1 : ∀ u ∈ news, u.oneCell' = true) (hm : 0 < m)
    (hbytes : (n + m) * bytes <= 140737488355328) (hmax : n + m <= maxLen) (B : Nat) (hB : B <= w.heap.size)
    (h : ∀ g cap w', w'.ownsRow base e size (.slice (some ⟨g, 0, none⟩) (n + m) cap) (n + m) (xs ++ news) -> w.grownBy w' v.ownBlock -> (v.ownBlock = some g ∨ B <= g) -> g < w'.heap.size -> K (a.put o.dst (.slice (some ⟨g, 0, none⟩) (n + m) cap)) w') :
    if Region.wanted o (yielded ops a.tmps) = true then Oper.wp P o a w K Q else F := by
 have hw : Region.wanted o (yielded ops a.tmps) = true := by simp [Region.wanted, hgd]
 rw [if_pos hw]
 obtain ⟨i, hi, hz, hsz, hby⟩ := R.info
 exact wp_append_lies w s x t ho base e i z size bytes R.ht hi hz hsz hby R.zs R.pos v n xs hs hown ad m c news hx hl hnews h1 hm hmax hbytes hb0 w.heap.size rfl (fun g cap w' h2 h3 h4 h5 => h g cap w' h2 h3 (h4.imp_right (fun e => by omega)) h5)
end Go.Proofs.YtgikimbafakmcaaGreatDoor
namespace Go.Proofs.YtgikimbafakmcaaGreatDoor
open Go.RowKit Pl
def FR (ob m : Nat) (vs : Nat -> Value) (f : Nat -> List Int) : List Rw :=
  ⟨58, 1, .slice (some ⟨ob, 0, none⟩) m m, m, (List.range m).map vs⟩ :: (List.range m).map (fun l => (⟨3, 1, vs l, (f l).length, (f l).flatMap encI⟩ : Rw))
theorem range_map_set {α : Type} {m l : Nat} (g : Nat -> α) (x : α) : ((List.range m).map g).set l x = (List.range m).map (upd g l x) := by
 apply List.ext_getElem?
 intro i
 rw [List.getElem?_set]
 by_cases h : i < m
 · by_cases e : l = i
   · subst e; simp [h, upd]
   · rw [if_neg e]
     simp [h, upd, show ¬ i = l from fun e2 => e e2.symm]
 · by_cases e : l = i
   · subst e; simp [h]
   · rw [if_neg e]; simp [h]
theorem FR.set {ob m l : Nat} {vs : Nat -> Value} {f : Nat -> List Int} (v : Value) (ys : List Int) (rest : List Rw) (hl : l < m) :
    (((FR ob m vs f ++ rest).set (l + 1) ⟨3, 1, v, ys.length, ys.flatMap encI⟩).set 0 ⟨58, 1, .slice (some ⟨ob, 0, none⟩) m m, m, ((List.range m).map vs).set l v⟩) = FR ob m (upd vs l v) (upd f l ys) ++ rest := by
 unfold FR
 rw [List.cons_append, List.set_cons_succ, List.set_cons_zero, List.set_append_left _ _ (by simpa using hl), range_map_set, range_map_set, List.cons_append]
 congr 2
 apply List.map_congr_left
 intro i _
 unfold upd
 split <;> rfl
section
variable {w0 w w' w1 w2 : World} {rest : List Rw} {ob m : Nat} {vs : Nat -> Value} {f : Nat -> List Int}
theorem Rws.frMade (h : Rws w0 w rest) (hm : m <= maxLen) : Rws w0 (w.alloc (.cells (madeCells #[.slice none 0 0] m) 58)) (FR w.heap.size m (fun _ => .slice none 0 0) (fun _ => []) ++ rest) := by
 have key : ∀ k, Rws w0 w ((List.range k).map (fun _ => (⟨3, 1, .slice none 0 0, 0, []⟩ : Rw)) ++ rest) := fun k => by (
 induction k with
 | zero => exact h
 | succ k ih =>
   rw [List.range_succ_eq_map, List.map_cons, List.map_map]
   exact ih.addNil _ _)
 have h2 := (key m).addLit (madeCells #[.slice none 0 0] m) 58 (k := 1) (n := m) hm (by simp [size_madeCells])
 have e : (madeCells #[.slice none 0 0] m).toList = (List.range m).map (fun _ => (.slice none 0 0 : Value)) := by (
 rw [toList_madeCells_one]
 apply List.ext_getElem?
 intro i
 by_cases hi : i < m <;> simp [hi])
 rw [e] at h2
 exact h2
theorem Rws.frCell (h : Rws w0 w (FR ob m vs f ++ rest)) {l : Nat} (hl : l < m) : w.cell? ⟨ob, l, none⟩ = some (vs l) /\ w.frozen? ⟨ob, l, none⟩ = false /\ ob < w.heap.size /\ w0.heap.size <= ob :=
  ⟨h.cell (i := 0) rfl (by simp [hl]), h.fz (i := 0) rfl l, (h.lt (i := 0) rfl).2, (h.lt (i := 0) rfl).1⟩
theorem Rws.frOwn (h : Rws w0 w (FR ob m vs f ++ rest)) {l : Nat} (hl : l < m) : w.ownsRow w0.heap.size 3 1 (vs l) (f l).length ((f l).flatMap encI) :=
  h.get (i := l + 1) (r := ⟨3, 1, vs l, (f l).length, (f l).flatMap encI⟩) (by unfold FR; rw [List.cons_append, List.getElem?_cons_succ, List.getElem?_append_left (by simpa using hl)]; simp [hl])
theorem Rws.frGrow {w2 : World} (h : Rws w0 w (FR ob m vs f ++ rest)) (hB2 : Below w.heap.size w w2) {l : Nat} (hl : l < m) {v' : Value} {ys : List Int} (ho : w1.ownsRow w0.heap.size 3 1 v' ys.length (ys.flatMap encI)) (hg : w2.grownBy w1 (vs l).ownBlock)
    (hh : ∀ g, v'.ownBlock = some g -> (vs l).ownBlock = some g ∨ w.heap.size <= g) :
    w1.cell? ⟨ob, l, none⟩ = some (vs l) /\ w1.frozen? ⟨ob, l, none⟩ = false /\ ob < w1.heap.size /\ Rws w0 (w1.setCell ⟨ob, l, none⟩ v') (FR ob m (upd vs l v') (upd f l ys) ++ rest) := by
 have hi : (FR ob m vs f ++ rest)[l + 1]? = some (⟨3, 1, vs l, (f l).length, (f l).flatMap encI⟩ : Rw) := by
   unfold FR; rw [List.cons_append, List.getElem?_cons_succ, List.getElem?_append_left (by simpa using hl)]; simp [hl]
 have hs := h.grown hB2 (l + 1) hi ho hg hh
 have h0 : ((FR ob m vs f ++ rest).set (l + 1) ⟨3, 1, v', ys.length, ys.flatMap encI⟩)[0]? = some (⟨58, 1, .slice (some ⟨ob, 0, none⟩) m m, m, (List.range m).map vs⟩ : Rw) := by
   unfold FR; rw [List.cons_append, List.set_cons_succ]; rfl
 have h2 := hs.set 0 h0 l v'
 rw [FR.set v' ys rest hl] at h2
 exact ⟨hs.cell h0 (by simp [hl]), hs.fz h0 l, (hs.lt h0).2, h2⟩
end
end Go.Proofs.YtgikimbafakmcaaGreatDoor
namespace Go.Proofs.YtgikimbafakmcaaGreatDoor
open Go.RowKit Pl
def withL (label : Int) (ss : List S) : List Int := (ss.filter (fun s => s.1 == label)).map fun s => s.2
end Go.Proofs.YtgikimbafakmcaaGreatDoor
namespace Go.Proofs.YtgikimbafakmcaaGreatDoor
open Go.RowKit Pl
open Lib (hid)
theorem fldSys0 (x y z : Int) (v : Value) (w : World) : (Instr.field 24 (.agg #[.int .i64 x, .int .i64 y, .int .i64 z, v]) 0).run Tryz.prog w = .ok (.int .i64 x) w := by kernel_rfl
theorem fldSys1 (x y z : Int) (v : Value) (w : World) : (Instr.field 24 (.agg #[.int .i64 x, .int .i64 y, .int .i64 z, v]) 1).run Tryz.prog w = .ok (.int .i64 y) w := by kernel_rfl
theorem fldSys2 (x y z : Int) (v : Value) (w : World) : (Instr.field 24 (.agg #[.int .i64 x, .int .i64 y, .int .i64 z, v]) 2).run Tryz.prog w = .ok (.int .i64 z) w := by kernel_rfl
theorem fldSys3 (x y z : Int) (v : Value) (w : World) : (Instr.field 24 (.agg #[.int .i64 x, .int .i64 y, .int .i64 z, v]) 3).run Tryz.prog w = .ok v w := by kernel_rfl
theorem outs_len {s : Lts} (h : s.Right) (i : Int) : (s.outs i).length <= 10000 := by
 have := h.st0
 unfold Lts.outs; rw [List.length_map]
 have := List.length_filter_le (fun x => x.1 == i) s.es; omega
theorem ins_len {s : Lts} (h : s.Right) (i : Int) : (s.ins i).length <= 10000 := by
 have := h.st0
 unfold Lts.ins; rw [List.length_map]
 have := List.length_filter_le (fun x => x.2.2 == i) (nf ltB s.es)
 have := length_nf (lt := ltB) s.es; omega
theorem own_any {w : World} {gb : Nat} {s : Lts} (h : GraphAt w gb s) :
    Calls Tryz.prog 124 #[.pointer (some ⟨gb, 0, none⟩)] w fun e w' => ∃ a c b off, e = .returned (.agg #[.int .i64 s.st, .int .i64 s.lb, .int .i64 s.s0, .slice a s.es.length c]) /\ s.es.length <= c /\ SlAt encE 3 w' a b off s.es /\ Below w.heap.size w w' := by
 obtain ⟨ve, oa, of, ia, if_, h1, ⟨a, c, b, off, rfl, hcc, h3⟩, _, _⟩ := h.blk
 have c0 : w.cell? ⟨gb, 0, none⟩ = some (.int .i64 s.st) := by simp [World.cell?, h1]
 have c1 : w.cell? ⟨gb, 1, none⟩ = some (.int .i64 s.lb) := by simp [World.cell?, h1]
 have c2 : w.cell? ⟨gb, 2, none⟩ = some (.int .i64 s.s0) := by simp [World.cell?, h1]
 have c3 : w.cell? ⟨gb, 3, none⟩ = some (.slice a s.es.length c) := by simp [World.cell?, h1]
 have hgb := h.lt
 have H3 := hid h3
 clear h h1 h3
 go_enter Tryz.func124, Tryz.ntmps124
 go_wp2
 have hB : Below w.heap.size w _ := (Below.refl w.heap.size w).alloc (Nat.le_refl _) (Obj.cells #[.int .i64 s.st, .int .i64 s.lb, .int .i64 s.s0, .slice a s.es.length c] 24)
 exact bodyPost_ret (v := .agg #[.int .i64 s.st, .int .i64 s.lb, .int .i64 s.s0, .slice a s.es.length c]) (by simp [results, Tryz.results124, go_sem]) rfl ⟨a, c, b, off, rfl, hcc, H3.out.below hB (Nat.le_refl _), hB⟩
theorem getStates_any {w : World} {gb : Nat} {s : Lts} (h : GraphAt w gb s) :
    Calls Tryz.prog 108 #[.pointer (some ⟨gb, 0, none⟩)] w fun e w' => e = .returned (.int .i64 s.st) /\ Below w.heap.size w w' := by
 have HO := hid (own_any h); clear h
 have hfl := fldSys0
 have hfl := fldSys0
 have hfl := fldSys0
 go_enter Tryz.func108, Tryz.ntmps108
 go_wp2_with (go_at_call 124; refine (HO.out).mono ?_; rintro e w1 ⟨a, c, b, off, rfl, hcc, hS, hB⟩; have HS := hid hS; clear hS)
 go_ret
 exact ⟨rfl, hB⟩
theorem getLabels_any {w : World} {gb : Nat} {s : Lts} (h : GraphAt w gb s) :
    Calls Tryz.prog 155 #[.pointer (some ⟨gb, 0, none⟩)] w fun e w' => e = .returned (.int .i64 s.lb) /\ Below w.heap.size w w' := by
 have HO := hid (own_any h); clear h
 have hfl := fldSys1
 have hfl := fldSys1
 have hfl := fldSys1
 go_enter Tryz.func155, Tryz.ntmps155
 go_wp2_with (go_at_call 124; refine (HO.out).mono ?_; rintro e w1 ⟨a, c, b, off, rfl, hcc, hS, hB⟩; have HS := hid hS; clear hS)
 go_ret
 exact ⟨rfl, hB⟩
set_option maxRecDepth 100000 in
theorem getStart_any {w : World} {gb : Nat} {s : Lts} (h : GraphAt w gb s) :
    Calls Tryz.prog 149 #[.pointer (some ⟨gb, 0, none⟩)] w fun e w' => e = .returned (.int .i64 s.s0) /\ Below w.heap.size w w' := by
  have HO := hid (own_any h); clear h
  have hfl := fldSys2
  have hfl := fldSys2
  have hfl := fldSys2
  go_enter Tryz.func149, Tryz.ntmps149
  go_wp2_with (go_at_call 124; refine (HO.out).mono ?_; rintro e w1 ⟨a, c, b, off, rfl, hcc, hS, hB⟩; have HS := hid hS; clear hS)
  go_ret
  exact ⟨rfl, hB⟩
end Go.Proofs.YtgikimbafakmcaaGreatDoor
