/-
  Lemmas.
-/
import Derived.Test.YtbaccmlfnbgehaaGreatDoorGKit
import Derived.Deep.AppendLies
import Derived.Deep.RegionLaw
import Derived.Below
import Derived.Shelf.Abstract
namespace Go.Proofs.YtbaccmlfnbgehaaGreatDoor
open Go.RowKit Pl
structure Rw where
  T : TypeId
  k : Nat
  v : Value
  n : Nat
  xs : List Value
structure Rws (w0 w : World) (L : List Rw) : Prop where
  bel : Below w0.heap.size w0 w
  own : ∀ r ∈ L, w.ownsRow w0.heap.size r.T r.k r.v r.n r.xs
  apart : L.Pairwise (fun a b => ∀ g, a.v.ownBlock = some g → b.v.ownBlock ≠ some g)
section
variable {w0 w w' w1 : World} {L : List Rw} {r : Rw}
theorem own_blockR {base : Nat} {e : TypeId} {k n : Nat} {v : Value} {xs : List Value} (h : w.ownsRow base e k v n xs) (hb : ∀ g, v.ownBlock = some g → w'.heap[g]? = w.heap[g]?) : w'.ownsRow base e k v n xs := by
  refine ⟨h.1, ?_⟩
  rcases h.2 with h2 | ⟨g, cap, cur, hv, hbg, hg, r⟩
  · exact .inl h2
  · exact .inr ⟨g, cap, cur, hv, hbg, by rw [hb g (by rw [hv]; rfl)]; exact hg, r⟩
theorem Rws.call (h : Rws w0 w L) (hB : Below w.heap.size w w') : Rws w0 w' L :=
  ⟨h.bel.trans (hB.mono h.bel.size), fun r hr => own_below (h.own r hr) hB, h.apart⟩
theorem Rws.drew (h : Rws w0 w L) : Rws w0 w.drew L := h.call (Below.refl _ _).drew
theorem Rws.drewN (h : Rws w0 w L) (m : Nat) : Rws w0 (w.drewN m) L := h.call (bdrew (Below.refl _ _))
theorem Rws.alloc (h : Rws w0 w L) (o : Obj) : Rws w0 (w.alloc o) L := h.call ((Below.refl _ _).alloc (Nat.le_refl _) o)
theorem Rws.get (h : Rws w0 w L) {i : Nat} (hi : L[i]? = some r) : w.ownsRow w0.heap.size r.T r.k r.v r.n r.xs := h.own r (List.mem_of_getElem? hi)
theorem Rws.nil (hB : Below w0.heap.size w0 w) : Rws w0 w [] := ⟨hB, fun _ h => by simp at h, .nil⟩
theorem Rws.ne (h : Rws w0 w L) {i j : Nat} {a b : Rw} (hi : L[i]? = some a) (hj : L[j]? = some b) (hij : i ≠ j) {g : Nat} (ha : a.v.ownBlock = some g) : b.v.ownBlock ≠ some g := by
  have hp := List.pairwise_iff_getElem.1 h.apart
  obtain ⟨hil, rfl⟩ := List.getElem?_eq_some_iff.1 hi
  obtain ⟨hjl, rfl⟩ := List.getElem?_eq_some_iff.1 hj
  rcases Nat.lt_or_gt_of_ne hij with hlt | hlt
  · exact hp i j hil hjl hlt g ha
  · intro hb
    exact hp j i hjl hil hlt g hb ha
theorem Rws.put (h : Rws w0 w L) {i : Nat} {a b : Rw} (hi : L[i]? = some a) (hB : Below w0.heap.size w0 w1)
    (hk : ∀ g, a.v.ownBlock ≠ some g → g < w.heap.size → w1.heap[g]? = w.heap[g]?) (ho : w1.ownsRow w0.heap.size b.T b.k b.v b.n b.xs)
    (hl : ∀ g, b.v.ownBlock = some g → a.v.ownBlock = some g ∨ w.heap.size ≤ g) : Rws w0 w1 (L.set i b) := by
  obtain ⟨hil, hia⟩ := List.getElem?_eq_some_iff.1 hi
  refine ⟨hB, fun r hr => ?_, ?_⟩
  · obtain ⟨j, hj, rfl⟩ := List.getElem_of_mem hr
    rw [List.getElem_set]
    by_cases e : i = j
    · rw [if_pos e]; exact ho
    · rw [if_neg e]
      have hjl : j < L.length := by simpa using hj
      have hjo := h.own L[j] (List.getElem_mem hjl)
      refine own_blockR hjo (fun g hg => hk g (fun e2 => ?_) (hjo.lt g hg).2)
      exact h.ne hi (List.getElem?_eq_getElem hjl) e e2 hg
  · rw [List.pairwise_iff_getElem]
    intro p q hp hq hpq g hg
    rw [List.length_set] at hp hq
    rw [List.getElem_set] at hg ⊢
    have key : ∀ j (hj : j < L.length), i ≠ j → b.v.ownBlock = some g → L[j].v.ownBlock = some g → False := fun j hj e hb hjg => by
      rcases hl g hb with h1 | h1
      · exact h.ne hi (List.getElem?_eq_getElem hj) e h1 hjg
      · have := ((h.own L[j] (List.getElem_mem hj)).lt g hjg).2; omega
    by_cases e1 : i = p
    · rw [if_pos e1] at hg
      rw [if_neg (by omega)]
      exact fun hq2 => key q hq (by omega) hg hq2
    · rw [if_neg e1] at hg
      by_cases e2 : i = q
      · rw [if_pos e2]
        exact fun hb => key p hp e1 hb hg
      · rw [if_neg e2]
        exact h.ne (List.getElem?_eq_getElem hp) (List.getElem?_eq_getElem hq) (by omega) hg
theorem Rws.set (h : Rws w0 w L) (i : Nat) {T : TypeId} {k n m g c : Nat} {xs : List Value} (hi : L[i]? = some ⟨T, k, .slice (some ⟨g, 0, none⟩) m c, n, xs⟩) (j : Nat) (u : Value) :
    Rws w0 (w.setCell ⟨g, j, none⟩ u) (L.set i ⟨T, k, .slice (some ⟨g, 0, none⟩) m c, n, xs.set j u⟩) := by
  have ho := h.get hi
  have hmn : m = n := by
    rcases ho.2 with ⟨h2, _⟩ | ⟨g', cap', cur, hv, _⟩
    · simp at h2
    · simp only [Value.slice.injEq] at hv; exact hv.2.1
  subst hmn
  obtain ⟨h1, h2⟩ := ho.stored j u
  have hg := (ho.lt g rfl).1
  refine h.put hi (h.bel.setCell hg _) (fun b hb _ => Below.heap_setCell _ _ _ _ (fun e => hb (by simp [Value.ownBlock, e]))) h1 (fun b hb => .inl hb)
theorem Rws.grown {w2 : World} (h : Rws w0 w L) (hB2 : Below w.heap.size w w2) (i : Nat) {T : TypeId} {k n n' : Nat} {v v' : Value} {xs xs' : List Value} (hi : L[i]? = some ⟨T, k, v, n, xs⟩) (ho : w1.ownsRow w0.heap.size T k v' n' xs') (hg : w2.grownBy w1 v.ownBlock)
    (hl : ∀ g, v'.ownBlock = some g → v.ownBlock = some g ∨ w.heap.size ≤ g) : Rws w0 w1 (L.set i ⟨T, k, v', n', xs'⟩) :=
  h.put hi ((h.bel.trans (hB2.mono h.bel.size)).grown hg (Nat.le_trans h.bel.size hB2.size) (fun b hb => ((h.get hi).lt b hb).1))
    (fun b hb hl => (hg.block b (Nat.lt_of_lt_of_le hl hB2.size) (fun e => hb e.symm)).trans (hB2.block b hl)) ho hl
theorem Rws.add (h : Rws w0 w L) {T : TypeId} {k n : Nat} {v : Value} {xs : List Value} (hB : Below w.heap.size w w1) (ho : w1.ownsRow w.heap.size T k v n xs) : Rws w0 w1 (⟨T, k, v, n, xs⟩ :: L) where
  bel := h.bel.trans (hB.mono h.bel.size)
  own r hr := by
    rcases List.mem_cons.1 hr with rfl | hr
    · exact own_mono ho h.bel.size
    · exact own_below (h.own r hr) hB
  apart := by
    refine List.pairwise_cons.2 ⟨fun b hb g hg hg2 => ?_, h.apart⟩
    have := (ho.lt g hg).1
    have := ((h.own b hb).lt g hg2).2
    omega
theorem Rws.addNil (h : Rws w0 w L) (T : TypeId) (k : Nat) : Rws w0 w (⟨T, k, .slice none 0 0, 0, []⟩ :: L) :=
  h.add (Below.refl _ _) (World.ownsRow_nil _ _ _ _)
theorem Rws.addLit (h : Rws w0 w L) (cs : Array Value) (T : TypeId) {k n : Nat} (hm : n ≤ maxLen) (hs : cs.size = n * k) : Rws w0 (w.alloc (.cells cs T)) (⟨T, k, .slice (some ⟨w.heap.size, 0, none⟩) n n, n, cs.toList⟩ :: L) :=
  h.add ((Below.refl _ _).alloc (Nat.le_refl _) _) (World.ownsRow_lit w cs n (Nat.le_refl _) hm hs)
theorem Rws.perm {L' : List Rw} (h : Rws w0 w L) (hp : L.Perm L') : Rws w0 w L' :=
  ⟨h.bel, fun r hr => h.own r (hp.mem_iff.2 hr), h.apart.perm hp (fun {_ _} h1 g hg hg2 => h1 g hg2 hg)⟩
theorem Rws.sub {L' : List Rw} (h : Rws w0 w L) (hs : L'.Sublist L) : Rws w0 w L' :=
  ⟨h.bel, fun r hr => h.own r (hs.subset hr), h.apart.sublist hs⟩
theorem Rws.form (h : Rws w0 w L) {i : Nat} {T : TypeId} {k n : Nat} {v : Value} {xs : List Value} (hi : L[i]? = some ⟨T, k, v, n, xs⟩) (hn : 0 < n) : ∃ g c, v = .slice (some ⟨g, 0, none⟩) n c ∧ n ≤ c ∧ c ≤ maxLen ∧ w0.heap.size ≤ g ∧ g < w.heap.size := by
  have ho := h.get hi
  rcases ho.2 with ⟨_, h2⟩ | ⟨g, c, cur, hv, hb, hg, h3, h4, _⟩
  · have h2 : n = 0 := h2
    omega
  · exact ⟨g, c, hv, h3, h4, hb, (Array.getElem?_eq_some_iff.1 hg).1⟩
theorem Rws.cell (h : Rws w0 w L) {i : Nat} {T : TypeId} {k n m g c : Nat} {xs : List Value} (hi : L[i]? = some ⟨T, k, .slice (some ⟨g, 0, none⟩) m c, n, xs⟩) {j : Nat} {u : Value} (hj : xs[j]? = some u) : w.cell? ⟨g, j, none⟩ = some u := by
  have ho := h.get hi
  have := ho.cells rfl j u hj
  have hadd : (⟨g, 0, none⟩ : Addr).add j = ⟨g, j, none⟩ := by unfold Addr.add; split <;> simp_all
  rwa [hadd] at this
theorem Rws.fz (h : Rws w0 w L) {i : Nat} {T : TypeId} {k n m g c : Nat} {xs : List Value} (hi : L[i]? = some ⟨T, k, .slice (some ⟨g, 0, none⟩) m c, n, xs⟩) (j : Nat) : w.frozen? ⟨g, j, none⟩ = false := by
  have ho := h.get hi
  rcases ho.2 with ⟨h2, _⟩ | ⟨g', c', cur, hv, _, hg, _⟩
  · simp at h2
  · simp only [Value.slice.injEq, Option.some.injEq, Addr.mk.injEq, and_true] at hv
    obtain ⟨rfl, _⟩ := hv
    simp [World.frozen?, hg]
theorem Rws.lt (h : Rws w0 w L) {i : Nat} {T : TypeId} {k n m g c : Nat} {xs : List Value} (hi : L[i]? = some ⟨T, k, .slice (some ⟨g, 0, none⟩) m c, n, xs⟩) : w0.heap.size ≤ g ∧ g < w.heap.size := (h.get hi).lt g rfl
theorem Rws.sl (h : Rws w0 w L) {α : Type} {enc : α → List Value} {i : Nat} {T : TypeId} {k n : Nat} {v : Value} {ys : List α} (hi : L[i]? = some ⟨T, k, v, n, ys.flatMap enc⟩) (hk : ∀ x, (enc x).length = k) (hn : n = ys.length) :
    ∃ a c b, v = .slice a ys.length c ∧ ys.length ≤ c ∧ c ≤ maxLen ∧ SlAt enc k w a b 0 ys ∧ (0 < ys.length → w0.heap.size ≤ b) := by
  subst hn
  exact slAt_own hk (h.get hi)
end
theorem wpList_lie {P : Program} {w : World} {ops : Array Oper} {rest : List Oper} {o : Oper} {a : Act} {Q : Exit → Act → World → Prop} (hgd : o.guard = none) (s x : Operand) (t : TypeId)
    (ho : o.op = .call { callee := .builtin .append, args := #[s, x], argTypes := #[t, t] })
    {e : TypeId} {size bytes : Nat} {z : Value} (R : IsRow P t e size bytes z) {base : Nat} (hb0 : base ≤ w.heap.size)
    {v : Value} {n : Nat} {xs : List Value} (hs : a.eval s = v) (hown : w.ownsRow base e size v n xs)
    (ad : Addr) (m c : Nat) (news : List Value) (hx : a.eval x = .slice (some ad) m c) (hl : news.length = m * size) (hnews : ∀ j u, news[j]? = some u → w.cell? (ad.add j) = some u) (h1 : ∀ u ∈ news, u.oneCell' = true) (hm : 0 < m)
    (hbytes : (n + m) * bytes ≤ 140737488355328) (hmax : n + m ≤ maxLen) (B : Nat) (hB : B ≤ w.heap.size)
    (h : ∀ g cap w', w'.ownsRow base e size (.slice (some ⟨g, 0, none⟩) (n + m) cap) (n + m) (xs ++ news) → w.grownBy w' v.ownBlock → (v.ownBlock = some g ∨ B ≤ g) → g < w'.heap.size → wpList P ops Q rest (a.put o.dst (.slice (some ⟨g, 0, none⟩) (n + m) cap)) w') : wpList P ops Q (o :: rest) a w := by
  obtain ⟨i, hi, hz, hsz, hby⟩ := R.info
  exact wpList_plain hgd fun _ hK => wp_append_lies w s x t ho base e i z size bytes R.ht hi hz hsz hby R.zs R.pos v n xs hs hown ad m c news hx hl hnews h1 hm hmax hbytes hb0 w.heap.size rfl (fun g cap w' h2 h3 h4 h5 => hK _ _ (h g cap w' h2 h3 (h4.imp_right (fun e => by omega)) h5))
theorem step_lie {P : Program} {w : World} {ops : Array Oper} {o : Oper} {a : Act} {K : Act → World → Prop} {Q : Exit → Act → World → Prop} {F : Prop} (hgd : o.guard = none) (s x : Operand) (t : TypeId)
    (ho : o.op = .call { callee := .builtin .append, args := #[s, x], argTypes := #[t, t] })
    {e : TypeId} {size bytes : Nat} {z : Value} (R : IsRow P t e size bytes z) {base : Nat} (hb0 : base ≤ w.heap.size)
    {v : Value} {n : Nat} {xs : List Value} (hs : a.eval s = v) (hown : w.ownsRow base e size v n xs)
    (ad : Addr) (m c : Nat) (news : List Value) (hx : a.eval x = .slice (some ad) m c) (hl : news.length = m * size) (hnews : ∀ j u, news[j]? = some u → w.cell? (ad.add j) = some u) (h1 : ∀ u ∈ news, u.oneCell' = true) (hm : 0 < m)
    (hbytes : (n + m) * bytes ≤ 140737488355328) (hmax : n + m ≤ maxLen) (B : Nat) (hB : B ≤ w.heap.size)
    (h : ∀ g cap w', w'.ownsRow base e size (.slice (some ⟨g, 0, none⟩) (n + m) cap) (n + m) (xs ++ news) → w.grownBy w' v.ownBlock → (v.ownBlock = some g ∨ B ≤ g) → g < w'.heap.size → K (a.put o.dst (.slice (some ⟨g, 0, none⟩) (n + m) cap)) w') :
    if Region.wanted o (yielded ops a.tmps) = true then Oper.wp P o a w K Q else F := by
  have hw : Region.wanted o (yielded ops a.tmps) = true := by simp [Region.wanted, hgd]
  rw [if_pos hw]
  obtain ⟨i, hi, hz, hsz, hby⟩ := R.info
  exact wp_append_lies w s x t ho base e i z size bytes R.ht hi hz hsz hby R.zs R.pos v n xs hs hown ad m c news hx hl hnews h1 hm hmax hbytes hb0 w.heap.size rfl (fun g cap w' h2 h3 h4 h5 => h g cap w' h2 h3 (h4.imp_right (fun e => by omega)) h5)
end Go.Proofs.YtbaccmlfnbgehaaGreatDoor
namespace Go.Proofs.YtbaccmlfnbgehaaGreatDoor
open Go.RowKit Pl
theorem heap_setCell_two {w0 w : World} {p : Addr} (v : Value) (k : Nat) (h : w.heap[k]? = w0.heap[k]?) : (w.setCell p v).heap[k]? = (w0.setCell p v).heap[k]? := by
  by_cases e : k = p.block
  · simp only [World.setCell, Array.getElem?_modify, h]
  · rw [Below.heap_setCell _ _ _ _ e, Below.heap_setCell _ _ _ _ e, h]
theorem Rws.low {w0 w : World} {L : List Rw} (h : Rws w0 w L) {p : Addr} (hp : p.block < w0.heap.size) (v : Value) : Rws (w0.setCell p v) (w.setCell p v) L := by
  have hs : (w0.setCell p v).heap.size = w0.heap.size := by simp [World.setCell]
  refine ⟨⟨h.bel.os, h.bel.tape, h.bel.output, ?_, fun k hk => ?_⟩, fun r hr => ?_, h.apart⟩
  · rw [hs]; simpa [World.setCell] using h.bel.size
  · exact heap_setCell_two v k (h.bel.block k (by rw [hs] at hk; exact hk))
  · rw [hs]; exact ownsRow_setCell_below (h.own r hr) hp v
theorem errG17 {w : World} {B : Nat} {x y z : Int} {u : ByteArray} (h : w.heap[B]? = some (.cells #[.int .i64 x, .int .i64 y, .int .i64 z, .string u] 29 (0, 0))) :
    (w.cell? ⟨B, 0, none⟩ = some (.int .i64 x) ∧ w.cell? ⟨B, 1, none⟩ = some (.int .i64 y) ∧ w.cell? ⟨B, 2, none⟩ = some (.int .i64 z) ∧ w.cell? ⟨B, 3, none⟩ = some (.string u)) ∧ B < w.heap.size := by
  refine ⟨⟨?_, ?_, ?_, ?_⟩, (Array.getElem?_eq_some_iff.1 h).1⟩ <;> simp [World.cell?, h]
theorem errPut {w : World} {B : Nat} {x y z x2 y2 z2 : Int} {u u2 : ByteArray} (h : w.heap[B]? = some (.cells #[.int .i64 x, .int .i64 y, .int .i64 z, .string u] 29 (0, 0))) :
    ((((w.setCell ⟨B, 0, none⟩ (.int .i64 x2)).setCell ⟨B, 1, none⟩ (.int .i64 y2)).setCell ⟨B, 2, none⟩ (.int .i64 z2)).setCell ⟨B, 3, none⟩ (.string u2)).heap[B]? = some (.cells #[.int .i64 x2, .int .i64 y2, .int .i64 z2, .string u2] 29 (0, 0)) := by
  simp [World.setCell, Array.getElem?_modify, h]
end Go.Proofs.YtbaccmlfnbgehaaGreatDoor
namespace Go.Proofs.YtbaccmlfnbgehaaGreatDoor
open Go.RowKit
structure Kp (n : Nat) (a b : Act) : Prop where
  size : b.tmps.size = a.tmps.size
  low : ∀ s, s < n → b.tmps[s]? = a.tmps[s]?
  df : b.defers = a.defers
theorem Kp.refl (n : Nat) (a : Act) : Kp n a a := ⟨rfl, fun _ _ => rfl, rfl⟩
theorem put_size (a : Act) (d : Nat) (v : Value) : (a.put (some d) v).tmps.size = a.tmps.size := by simp [Act.put]
theorem put_same {a : Act} {d : Nat} (h : d < a.tmps.size) (v : Value) : (a.put (some d) v).tmps[d]? = some v := by simp [Act.put, h]
theorem put_ne {a : Act} {d s : Nat} (h : d ≠ s) (v : Value) : (a.put (some d) v).tmps[s]? = a.tmps[s]? := by simp [Act.put, Array.getElem?_setIfInBounds_ne h]
theorem Kp.put {n : Nat} {a b : Act} (h : Kp n a b) {d : Nat} (hd : n ≤ d) (v : Value) : Kp n a (b.put (some d) v) :=
  ⟨by rw [put_size, h.size], fun s hs => by rw [put_ne (by omega), h.low s hs], h.df⟩
theorem eval_tmp {a : Act} {s : Nat} {v : Value} (h : a.tmps[s]? = some v) : a.eval (.tmp s) = v := by simp [Act.eval, Array.getD_eq_getD_getElem?, h]
section
variable {P : Program} {ops : Array Oper} {rest : List Oper} {Q : Exit → Act → World → Prop} {a : Act} {w : World} {o : Oper}
theorem wanted_of {k d : Nat} (hg : o.guard = some (k, true)) (hk : (ops[k]?).bind (·.dst) = some d) (hd : a.tmps[d]? = some (.bool true)) : Region.wanted o (yielded ops a.tmps) = true := by
  simp [Region.wanted, hg, yielded, hk, hd]
theorem wanted_none (hg : o.guard = none) : Region.wanted o (yielded ops a.tmps) = true := by simp [Region.wanted, hg]
theorem wpL_val {d : Nat} {v : Value} (hw : Region.wanted o (yielded ops a.tmps) = true) (hd : o.dst = some d) (hr : (execOp a.eval o).run P w = .ok (.value v) w) (h : wpList P ops Q rest (a.put (some d) v) w) : wpList P ops Q (o :: rest) a w := by
  refine wpList_step fun K hK => ?_
  rw [if_pos hw]
  unfold Oper.wp
  rw [hr, Oper.upon_value, hd]
  exact hK _ _ h
theorem wpL_call {d f : Nat} {args : Array Value} {v : Value} {R : World → Prop} (hw : Region.wanted o (yielded ops a.tmps) = true) (hd : o.dst = some d) (hr : (execOp a.eval o).run P w = .ok (.enter f args) w) (hc : Calls P f args w fun e w' => e = .returned v ∧ R w')
    (h : ∀ w', R w' → wpList P ops Q rest (a.put (some d) v) w') : wpList P ops Q (o :: rest) a w := by
  refine wpList_step fun K hK => ?_
  rw [if_pos hw]
  unfold Oper.wp
  rw [hr, Oper.upon_enter]
  refine hc.mono fun e w'' hh => ?_
  obtain ⟨rfl, hR⟩ := hh
  rw [hd]
  exact hK _ _ (h _ hR)
theorem run_move {x : Operand} (ho : o.op = .move x) : (execOp a.eval o).run P w = .ok (.value (a.eval x)) w := by simp [execOp, ho]
theorem run_assign {x : Operand} (ho : o.op = .assign x) : (execOp a.eval o).run P w = .ok (.value (a.eval x)) w := by simp [execOp, ho]
theorem put_df (a : Act) (d : Nat) (v : Value) : (a.put (some d) v).defers = a.defers := rfl
theorem run_pick {c x y : Operand} (ho : o.op = .pick c x y) (hc : a.eval c = .bool true) : (execOp a.eval o).run P w = .ok (.value (a.eval x)) w := by simp [execOp, ho, hc, asBool]
theorem run_nilCheck {x : Operand} (ho : o.op = .nilCheck x) {p : Addr} (hx : a.eval x = .pointer (some p)) : (execOp a.eval o).run P w = .ok (.value (.pointer (some p))) w := by simp [execOp, ho, hx]
theorem run_call {f : Nat} {x : Operand} {t : Array TypeId} (ho : o.op = .call { callee := .value (.func f), args := #[x], argTypes := t }) (he : ∀ args w, (callFunc f args).run P w = .ok (.enter f args) w) : (execOp a.eval o).run P w = .ok (.enter f #[a.eval x]) w := by
  simp [execOp, ho, resolve, Deferred.ofValue, invoke, Act.eval, he]
theorem at_act {c : Code} (h : ∀ a0, a0 = a → c.wp P Q a0 w) : c.wp P Q a w := h a rfl
theorem and_slot {n dp d1 d2 d3 d4 s k f : Nat} {a0 : Act} {gv : Value} {R : World → Prop} {t : Array TypeId} {o1 o2 o3 o4 : Oper}
    (e1 : o1.op = .move (.tmp dp)) (g1 : o1.guard = none) (t1 : o1.dst = some d1) (e2 : o2.op = .move (.tmp s)) (g2 : o2.guard = some (k, true)) (t2 : o2.dst = some d2)
    (e3 : o3.op = .call { callee := .value (.func f), args := #[.tmp d2], argTypes := t }) (g3 : o3.guard = some (k, true)) (t3 : o3.dst = some d3) (e4 : o4.op = .pick (.tmp d1) (.tmp d3) (.const (.bool false))) (g4 : o4.guard = none) (t4 : o4.dst = some d4)
    (hk : (ops[k]?).bind (·.dst) = some d1) (h1 : n ≤ d1) (h2 : d1 < d2) (h3 : d2 < d3) (h4 : d3 < d4) (hs : s < n)
    (hK : Kp n a0 a) (hz : d4 < a0.tmps.size) (hp : a.tmps[dp]? = some (.bool true)) (hgv : a0.tmps[s]? = some gv) (he : ∀ args w, (callFunc f args).run P w = .ok (.enter f args) w)
    (hc : Calls P f #[gv] w fun e w' => e = .returned (.bool true) ∧ R w')
    (h : ∀ a' w', Kp n a0 a' → a'.tmps[d4]? = some (.bool true) → R w' → wpList P ops Q rest a' w') : wpList P ops Q (o1 :: o2 :: o3 :: o4 :: rest) a w := by
  have z := hK.size
  refine wpL_val (v := .bool true) (wanted_none g1) t1 (by rw [run_move e1, eval_tmp hp]) ?_
  have k1 := hK.put h1 (.bool true)
  have q1 : (a.put (some d1) (.bool true)).tmps[d1]? = some (.bool true) := put_same (by omega) _
  refine wpL_val (v := gv) (wanted_of g2 hk q1) t2 (by rw [run_move e2, eval_tmp (by rw [k1.low s hs]; exact hgv)]) ?_
  have k2 := k1.put (d := d2) (by omega) gv
  have q2 : ((a.put (some d1) (.bool true)).put (some d2) gv).tmps[d1]? = some (.bool true) := by rw [put_ne (by omega)]; exact q1
  have r2 : ((a.put (some d1) (.bool true)).put (some d2) gv).tmps[d2]? = some gv := put_same (by rw [put_size]; omega) _
  refine wpL_call (v := .bool true) (wanted_of g3 hk q2) t3 (by rw [run_call e3 he, eval_tmp r2]) hc (fun w' hR => ?_)
  have k3 := k2.put (d := d3) (by omega) (.bool true)
  have q3 : (((a.put (some d1) (.bool true)).put (some d2) gv).put (some d3) (.bool true)).tmps[d1]? = some (.bool true) := by rw [put_ne (by omega)]; exact q2
  have r3 : (((a.put (some d1) (.bool true)).put (some d2) gv).put (some d3) (.bool true)).tmps[d3]? = some (.bool true) := put_same (by rw [put_size, put_size]; omega) _
  refine wpL_val (v := .bool true) (wanted_none g4) t4 (by rw [run_pick e4 (eval_tmp q3), eval_tmp r3]) ?_
  exact h _ _ (k3.put (d := d4) (by omega) _) (put_same (by rw [put_size, put_size, put_size]; omega) _) hR
theorem and_field {n dp d1 d2 d3 d4 d5 d6 d7 s k f bb fld st ft off : Nat} {a0 : Act} {ov : Value} {R : World → Prop} {t : Array TypeId} {o1 o2 o3 o4 o5 o6 o7 : Oper}
    (e1 : o1.op = .move (.tmp dp)) (g1 : o1.guard = none) (t1 : o1.dst = some d1) (e2 : o2.op = .move (.tmp s)) (g2 : o2.guard = some (k, true)) (t2 : o2.dst = some d2)
    (e3 : o3.op = .nilCheck (.tmp d2)) (g3 : o3.guard = some (k, true)) (t3 : o3.dst = some d3) (e4 : o4.op = .fieldAddr st (.tmp d3) fld) (g4 : o4.guard = some (k, true)) (t4 : o4.dst = some d4)
    (e5 : o5.op = .load ft (.tmp d4)) (g5 : o5.guard = some (k, true)) (t5 : o5.dst = some d5)
    (e6 : o6.op = .call { callee := .value (.func f), args := #[.tmp d5], argTypes := t }) (g6 : o6.guard = some (k, true)) (t6 : o6.dst = some d6) (e7 : o7.op = .pick (.tmp d1) (.tmp d6) (.const (.bool false))) (g7 : o7.guard = none) (t7 : o7.dst = some d7)
    (hk : (ops[k]?).bind (·.dst) = some d1) (h1 : n ≤ d1) (h2 : d1 < d2) (h3 : d2 < d3) (h4 : d3 < d4) (h5 : d4 < d5) (h6 : d5 < d6) (h7 : d6 < d7) (hs : s < n)
    (hK : Kp n a0 a) (hz : d7 < a0.tmps.size) (hp : a.tmps[dp]? = some (.bool true)) (hgv : a0.tmps[s]? = some (.pointer (some ⟨bb, 0, none⟩))) (he : ∀ args w, (callFunc f args).run P w = .ok (.enter f args) w)
    (hfa : ∀ w, (Instr.fieldAt st (.pointer (some ⟨bb, 0, none⟩)) fld).run P w = .ok (.pointer (some ⟨bb, off, none⟩)) w) (hld : (Instr.loadAt ft (.pointer (some ⟨bb, off, none⟩))).run P w = .ok ov w)
    (hc : Calls P f #[ov] w fun e w' => e = .returned (.bool true) ∧ R w')
    (h : ∀ a' w', Kp n a0 a' → a'.tmps[d7]? = some (.bool true) → R w' → wpList P ops Q rest a' w') : wpList P ops Q (o1 :: o2 :: o3 :: o4 :: o5 :: o6 :: o7 :: rest) a w := by
  have z := hK.size
  refine wpL_val (v := .bool true) (wanted_none g1) t1 (by rw [run_move e1, eval_tmp hp]) ?_
  have k1 := hK.put h1 (.bool true)
  have q1 : (a.put (some d1) (.bool true)).tmps[d1]? = some (.bool true) := put_same (by omega) _
  have z1 := put_size a d1 (.bool true)
  generalize a.put (some d1) (.bool true) = b1 at *
  refine wpL_val (v := .pointer (some ⟨bb, 0, none⟩)) (wanted_of g2 hk q1) t2 (by rw [run_move e2, eval_tmp (by rw [k1.low s hs]; exact hgv)]) ?_
  have k2 := k1.put (d := d2) (by omega) (.pointer (some ⟨bb, 0, none⟩))
  have q2 : (b1.put (some d2) (.pointer (some ⟨bb, 0, none⟩))).tmps[d1]? = some (.bool true) := by rw [put_ne (by omega)]; exact q1
  have r2 : (b1.put (some d2) (.pointer (some ⟨bb, 0, none⟩))).tmps[d2]? = some (.pointer (some ⟨bb, 0, none⟩)) := put_same (by omega) _
  have z2 := put_size b1 d2 (.pointer (some ⟨bb, 0, none⟩))
  generalize b1.put (some d2) (.pointer (some ⟨bb, 0, none⟩)) = b2 at *
  refine wpL_val (v := .pointer (some ⟨bb, 0, none⟩)) (wanted_of g3 hk q2) t3 (run_nilCheck e3 (eval_tmp r2)) ?_
  have k3 := k2.put (d := d3) (by omega) (.pointer (some ⟨bb, 0, none⟩))
  have q3 : (b2.put (some d3) (.pointer (some ⟨bb, 0, none⟩))).tmps[d1]? = some (.bool true) := by rw [put_ne (by omega)]; exact q2
  have r3 : (b2.put (some d3) (.pointer (some ⟨bb, 0, none⟩))).tmps[d3]? = some (.pointer (some ⟨bb, 0, none⟩)) := put_same (by omega) _
  have z3 := put_size b2 d3 (.pointer (some ⟨bb, 0, none⟩))
  generalize b2.put (some d3) (.pointer (some ⟨bb, 0, none⟩)) = b3 at *
  refine wpL_val (v := .pointer (some ⟨bb, off, none⟩)) (wanted_of g4 hk q3) t4 (by simp [execOp, e4, eval_tmp r3, hfa]) ?_
  have k4 := k3.put (d := d4) (by omega) (.pointer (some ⟨bb, off, none⟩))
  have q4 : (b3.put (some d4) (.pointer (some ⟨bb, off, none⟩))).tmps[d1]? = some (.bool true) := by rw [put_ne (by omega)]; exact q3
  have r4 : (b3.put (some d4) (.pointer (some ⟨bb, off, none⟩))).tmps[d4]? = some (.pointer (some ⟨bb, off, none⟩)) := put_same (by omega) _
  have z4 := put_size b3 d4 (.pointer (some ⟨bb, off, none⟩))
  generalize b3.put (some d4) (.pointer (some ⟨bb, off, none⟩)) = b4 at *
  refine wpL_val (v := ov) (wanted_of g5 hk q4) t5 (by simp [execOp, e5, eval_tmp r4, hld]) ?_
  have k5 := k4.put (d := d5) (by omega) ov
  have q5 : (b4.put (some d5) ov).tmps[d1]? = some (.bool true) := by rw [put_ne (by omega)]; exact q4
  have r5 : (b4.put (some d5) ov).tmps[d5]? = some ov := put_same (by omega) _
  have z5 := put_size b4 d5 ov
  generalize b4.put (some d5) ov = b5 at *
  refine wpL_call (v := .bool true) (wanted_of g6 hk q5) t6 (by rw [run_call e6 he, eval_tmp r5]) hc (fun w' hR => ?_)
  have k6 := k5.put (d := d6) (by omega) (.bool true)
  have q6 : (b5.put (some d6) (.bool true)).tmps[d1]? = some (.bool true) := by rw [put_ne (by omega)]; exact q5
  have r6 : (b5.put (some d6) (.bool true)).tmps[d6]? = some (.bool true) := put_same (by omega) _
  have z6 := put_size b5 d6 (.bool true)
  generalize b5.put (some d6) (.bool true) = b6 at *
  refine wpL_val (v := .bool true) (wanted_none g7) t7 (by rw [run_pick e7 (eval_tmp q6), eval_tmp r6]) ?_
  exact h _ _ (k6.put (d := d7) (by omega) _) (put_same (by omega) _) hR
end
end Go.Proofs.YtbaccmlfnbgehaaGreatDoor
namespace Go.Proofs.YtbaccmlfnbgehaaGreatDoor
open Go.RowKit Pl
section
variable {α : Type} {f : Nat → Nat → α} {i k n m : Nat}
def mkG (f : Nat → Nat → α) (i k n : Nat) : List α := (List.range n).map (fun j => f i (k + j))
theorem mkG_len : (mkG f i k n).length = n := by simp [mkG]
theorem mkG_get {j : Nat} (h : j < n) : (mkG f i k n)[j]? = some (f i (k + j)) := by simp [mkG, h]
theorem mkG_app : mkG f i k n ++ mkG f i (k + n) m = mkG f i k (n + m) := by
  apply List.ext_getElem?
  intro j
  by_cases h : j < n
  · rw [List.getElem?_append_left (by rw [mkG_len]; exact h), mkG_get h, mkG_get (by omega)]
  · rw [List.getElem?_append_right (by rw [mkG_len]; omega), mkG_len]
    by_cases h2 : j < n + m
    · rw [mkG_get (by omega), mkG_get h2, show k + n + (j - n) = k + j by omega]
    · rw [List.getElem?_eq_none (by rw [mkG_len]; omega), List.getElem?_eq_none (by rw [mkG_len]; omega)]
theorem mkG_app0 : mkG f i 0 n ++ mkG f i n m = mkG f i 0 (n + m) := by
  have := mkG_app (f := f) (i := i) (k := 0) (n := n) (m := m)
  rwa [Nat.zero_add] at this
theorem mkG_one : mkG f i k 1 = [f i k] := by simp [mkG]
theorem mkG_snoc : mkG f i k n ++ [f i (k + n)] = mkG f i k (n + 1) := by rw [← mkG_one, mkG_app]
end
def mI (i k : Nat) : Int := -1000000 * (i : Int) - (k : Int) - 7
def mB (i k : Nat) : Bool := decide ((i + k) % 2 = 0)
theorem mB_int (i k j : Nat) : mB i (k + j) = (((i : Int) + ((k : Int) + (j : Int))) % 2 == 0) := by
  unfold mB
  rw [Bool.eq_iff_iff]
  simp only [decide_eq_true_eq, beq_iff_eq]
  omega
def mS (i k : Nat) : S := (-1 - (i : Int), (k : Int))
def mE (i k : Nat) : E := (-1 - (i : Int), (k : Int), 7)
structure Kd where
  T : TypeId
  o : Value
  p : Value
  vs : List Value
  us : List Value
  G : List Rw
def Kd.rs (K : Kd) : List Rw := ⟨K.T, 1, K.o, K.vs.length, K.vs⟩ :: ⟨K.T, 1, K.p, K.us.length, K.us⟩ :: K.G
def bkCells (kds : List Kd) : List Value := kds.flatMap (fun K => [K.o, K.p])
def bkBox (bb : Nat) (kds : List Kd) : Rw := ⟨45, 22, .slice (some ⟨bb, 0, none⟩) 1 1, 1, bkCells kds⟩
def bkRows (bb : Nat) (kds : List Kd) (D : List Rw) : List Rw := bkBox bb kds :: (kds.flatMap Kd.rs ++ D)
def bkX (kds : List Kd) (j : Nat) (D : List Rw) : List Rw := (kds.take j ++ kds.drop (j + 1)).flatMap Kd.rs ++ D
section
variable {kds : List Kd} {K K' : Kd} {j bb : Nat} {D : List Rw}
theorem bk_cut (h : kds[j]? = some K) : kds = kds.take j ++ K :: kds.drop (j + 1) := by
  obtain ⟨hl, rfl⟩ := List.getElem?_eq_some_iff.1 h
  rw [List.getElem_cons_drop, List.take_append_drop]
theorem bkX_set : bkX (kds.set j K') j D = bkX kds j D := by
  unfold bkX
  rw [List.take_set_of_le (Nat.le_refl _), List.drop_set_of_lt (by omega)]
theorem bkFlat_perm (h : kds[j]? = some K) : (kds.flatMap Kd.rs ++ D).Perm (K.rs ++ bkX kds j D) := by
  unfold bkX
  conv => lhs; rw [bk_cut h]
  rw [List.flatMap_append, List.flatMap_append, List.flatMap_cons, List.append_assoc, List.append_assoc, List.append_assoc]
  refine (List.perm_append_comm_assoc _ _ _).trans ?_
  exact List.Perm.refl _
theorem bkRows_perm (h : kds[j]? = some K) : (bkRows bb kds D).Perm (bkBox bb kds :: (K.rs ++ bkX kds j D)) := (bkFlat_perm h).cons _
theorem bkRows_perm' (h : kds[j]? = some K) : (bkRows bb (kds.set j K') D).Perm (bkBox bb (kds.set j K') :: (K'.rs ++ bkX kds j D)) := by
  have hl := (List.getElem?_eq_some_iff.1 h).1
  have := bkRows_perm (bb := bb) (D := D) (K := K') (kds := kds.set j K') (j := j) (by simp [hl])
  rw [bkX_set] at this
  exact this
theorem bkCells_at (h : kds[j]? = some K) : (bkCells kds)[j * 2]? = some K.o ∧ (bkCells kds)[j * 2 + 1]? = some K.p :=
  ⟨getElem?_flatMap (enc := fun K : Kd => [K.o, K.p]) (k := 2) (fun _ => rfl) kds j K h 0 _ rfl, getElem?_flatMap (enc := fun K : Kd => [K.o, K.p]) (k := 2) (fun _ => rfl) kds j K h 1 _ rfl⟩
theorem bkCells_len : (bkCells kds).length = kds.length * 2 := length_flatMap (enc := fun K : Kd => [K.o, K.p]) (k := 2) (fun _ => rfl) kds
theorem bkCells_set (h : kds[j]? = some K) : bkCells (kds.set j K') = ((bkCells kds).set (j * 2) K'.o).set (j * 2 + 1) K'.p := by
  have hl := (List.getElem?_eq_some_iff.1 h).1
  apply List.ext_getElem?
  intro q
  by_cases hq : q < kds.length * 2
  · obtain ⟨Y, hY⟩ := getElem?_of_lt (xs := kds) (i := q / 2) (by omega)
    have hq2 : q = q / 2 * 2 ∨ q = q / 2 * 2 + 1 := by omega
    have e1 := bkCells_at hY
    rw [List.getElem?_set, List.getElem?_set]
    by_cases e : j = q / 2
    · subst e
      have e2 := bkCells_at (kds := kds.set (q / 2) K') (j := q / 2) (K := K') (by simp [hl])
      rcases hq2 with e3 | e3
      · rw [show (bkCells (kds.set (q / 2) K'))[q]? = some K'.o by rw [e3]; simpa using e2.1]
        rw [if_neg (by omega), if_pos (by omega)]
        simp [bkCells_len]; omega
      · rw [show (bkCells (kds.set (q / 2) K'))[q]? = some K'.p by rw [e3]; have := e2.2; rw [show (q / 2 * 2 + 1) / 2 = q / 2 by omega]; exact this]
        rw [if_pos (by omega)]
        simp [bkCells_len]; omega
    · have e2 := bkCells_at (kds := kds.set j K') (j := q / 2) (K := Y) (by rw [List.getElem?_set_ne e]; exact hY)
      rw [if_neg (by omega), if_neg (by omega)]
      rcases hq2 with e3 | e3
      · rw [e3, e1.1, e2.1]
      · rw [e3, e1.2, e2.2]
  · rw [List.getElem?_eq_none (by rw [bkCells_len]; simp; omega), List.getElem?_eq_none (by simp [bkCells_len]; omega)]
theorem bkBox_set (h : kds[j]? = some K) (ho : K'.o = K.o) (hp : K'.p = K.p) : bkBox bb (kds.set j K') = bkBox bb kds := by
  unfold bkBox
  rw [bkCells_set h, ho, hp]
  obtain ⟨h1, h2⟩ := bkCells_at h
  congr 1
  have set_self : ∀ (l : List Value) (i : Nat) (x : Value), l[i]? = some x → l.set i x = l := fun l i x h => by
    apply List.ext_getElem?
    intro q
    rw [List.getElem?_set]
    by_cases e : i = q
    · subst e; rw [if_pos rfl, if_pos (List.getElem?_eq_some_iff.1 h).1, h]
    · rw [if_neg e]
  rw [set_self _ _ _ h1, set_self _ _ _ h2]
end
structure Fl {α : Type} (T : TypeId) (k : Nat) (enc : α → List Value) (r : Rw) : Prop where
  hT : r.T = T
  hk : r.k = k
  hn : r.n ≤ 2000000
  ex : ∃ ys : List α, r.n = ys.length ∧ r.xs = ys.flatMap enc
def Pre (G : List Rw) (k : Nat) (v : Value) (n : Nat) (cs : List Value) : Prop :=
  ∃ r ∈ G, r.k = k ∧ ∃ a c c', v = .slice a n c ∧ r.v = .slice a r.n c' ∧ n ≤ r.n ∧ r.xs.take (n * k) = cs
theorem Pre.mono {G G' : List Rw} {k n : Nat} {v : Value} {cs : List Value} (h : Pre G k v n cs) (hs : ∀ r ∈ G, r ∈ G') : Pre G' k v n cs := by
  obtain ⟨r, hr, x⟩ := h
  exact ⟨r, hs r hr, x⟩
section
variable {w0 w : World} {L : List Rw}
theorem Rws.shape (h : Rws w0 w L) {r : Rw} (hr : r ∈ L) : ∃ a c, r.v = .slice a r.n c ∧ (0 < r.n → ∃ g, a = some ⟨g, 0, none⟩) ∧ (a = none ∨ ∃ g, a = some ⟨g, 0, none⟩) ∧ r.n ≤ c ∧ c ≤ maxLen ∧ r.xs.length = r.n * r.k := by
  have ho := h.own r hr
  rcases ho.2 with ⟨h1, h2⟩ | ⟨g, c, cur, hv, _, _, hnc, hcm, _⟩
  · exact ⟨none, 0, by rw [h1, h2], fun h => by omega, .inl rfl, by omega, by unfold maxLen; omega, ho.1⟩
  · exact ⟨some ⟨g, 0, none⟩, c, hv, fun _ => ⟨g, rfl⟩, .inr ⟨g, rfl⟩, hnc, hcm, ho.1⟩
theorem Rws.pre {α : Type} {enc : α → List Value} {k : Nat} (h : Rws w0 w L) {G : List Rw} (hs : ∀ r ∈ G, r ∈ L) (hk : ∀ x, (enc x).length = k) {v : Value} {ys : List α} {n : Nat} (hp : Pre G k v n (ys.flatMap enc)) (hn : n = ys.length) :
    ∃ a c b, v = .slice a ys.length c ∧ SlAt enc k w a b 0 ys := by
  subst hn
  obtain ⟨r, hr, rfl, a, c, c', hv, hrv, hle, htk⟩ := hp
  have ho := h.own r (hs r hr)
  rcases ho.2 with ⟨h1, h2⟩ | ⟨g, cap, cur, hv2, _, hg, _, _, _, htake⟩
  · rw [h2] at hle
    have : ys = [] := List.eq_nil_of_length_eq_zero (by omega)
    subst this
    exact ⟨a, c, 0, hv, slAt_nil _ _ _ _⟩
  · rw [hv2] at hrv
    simp only [Value.slice.injEq] at hrv
    obtain ⟨rfl, _, _⟩ := hrv
    refine ⟨_, c, g, hv, fun _ => rfl, fun _ => (Array.getElem?_eq_some_iff.1 hg).1, fun i x hx j u hu => ?_⟩
    rw [cell_of_row w g _ cur r.T (0, 0) hg]
    have h1 := getElem?_flatMap hk ys i x hx j u hu
    rw [← htk, List.getElem?_take] at h1
    split at h1
    · rw [← htake, List.getElem?_take] at h1
      split at h1
      · simpa using h1
      · cases h1
    · cases h1
theorem Pre.self {r : Rw} (h : Rws w0 w L) (hr : r ∈ L) : Pre [r] r.k r.v r.n r.xs := by
  obtain ⟨a, c, hv, _, _, _, _, hl⟩ := h.shape hr
  exact ⟨r, by simp, rfl, a, c, c, hv, hv, Nat.le_refl _, List.take_of_length_le (by omega)⟩
end
end Go.Proofs.YtbaccmlfnbgehaaGreatDoor
