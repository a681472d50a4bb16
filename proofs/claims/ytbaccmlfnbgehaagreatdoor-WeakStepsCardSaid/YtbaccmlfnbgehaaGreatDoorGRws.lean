/-
  Lemmas.
-/
import Derived.Test.YtbaccmlfnbgehaaGreatDoorGMem
import Derived.Deep.AppendLies
import Derived.Deep.RegionLaw
import Derived.Laws.AppendOwnNone
import Derived.Test.YtbaccmlfnbgehaaGreatDoorGPlB
import Derived.Laws.BitsAllLaws
import Derived.IntWalk
import Derived.BigRegion
import Derived.Deep.QuietTactic
import Derived.BigQuiet
import Derived.Outline
import Derived.Deep.Cut
import Derived.Shelf.Spec.TrailingZeros
import Derived.Test.YtbaccmlfnbgehaaGreatDoorGPl5
import Derived.Lib.ItoaLen
open List renaming getElem?_eq_some_iff → l0, getElem?_eq_getElem → l1, eq_nil_of_length_eq_zero → l2, pairwise_iff_getElem → l3, getElem_set → l7, getElem_mem → l8, length_cons → l9, mem_map → m0, nodup_cons → m1, mem_range → m2, mem_cons → m3
open Nat renaming le_refl → l4, lt_of_lt_of_le → l5, eq_zero_or_pos → l6
open Go.Proofs.Tryz
namespace Go.Proofs.YtbaccmlfnbgehaaGreatDoor
open Go.RowKit Pl
structure Rw where
  T : TypeId
  k : Nat
  v : Value
  n : Nat
  xs : List Value
structure Rws (w0 w : World) (L : List Rw) : Prop where
  bel : Below w0.heap.size w0 w
  own : ∀ r ∈ L, w.ownsRow w0.heap.size r.T r.k r.v r.n r.xs
  apart : L.Pairwise (fun a b => ∀ g, a.v.ownBlock = some g -> b.v.ownBlock ≠ some g)
section
variable {w0 w w' w1 : World} {L : List Rw} {r : Rw}
theorem y0n {base : Nat} {e : TypeId} {k n : Nat} {v : Value} {xs : List Value} (h : w.ownsRow base e k v n xs) (hb : ∀ g, v.ownBlock = some g -> w'.heap[g]? = w.heap[g]?) : w'.ownsRow base e k v n xs := by
 refine ⟨h.1, ?_⟩
 rcases h.2 with h2 | ⟨g, cap, cur, hv, hbg, hg, r⟩
 · exact .inl h2
 · exact .inr ⟨g, cap, cur, hv, hbg, by rw [hb g (by rw [hv]; rfl)]; exact hg, r⟩
theorem Rws.call (h : Rws w0 w L) (hB : Below w.heap.size w w') : Rws w0 w' L :=
  ⟨h.bel.trans (hB.mono h.bel.size), fun r hr => own_below (h.own r hr) hB, h.apart⟩
theorem Rws.drew (h : Rws w0 w L) : Rws w0 w.drew L := h.call (Below.refl _ _).drew
theorem Rws.drewN (h : Rws w0 w L) (m : Nat) : Rws w0 (w.drewN m) L := h.call (j0q (Below.refl _ _))
theorem Rws.alloc (h : Rws w0 w L) (o : Obj) : Rws w0 (w.alloc o) L := h.call ((Below.refl _ _).alloc (l4 _) o)
theorem Rws.get (h : Rws w0 w L) {i : Nat} (hi : L[i]? = some r) : w.ownsRow w0.heap.size r.T r.k r.v r.n r.xs := h.own r (List.mem_of_getElem? hi)
theorem Rws.nil (hB : Below w0.heap.size w0 w) : Rws w0 w [] := ⟨hB, fun _ h => by simp at h, .nil⟩
theorem Rws.ne (h : Rws w0 w L) {i j : Nat} {a b : Rw} (hi : L[i]? = some a) (hj : L[j]? = some b) (hij : i ≠ j) {g : Nat} (ha : a.v.ownBlock = some g) : b.v.ownBlock ≠ some g := by
 have hp := l3.1 h.apart
 obtain ⟨hil, rfl⟩ := l0.1 hi
 obtain ⟨hjl, rfl⟩ := l0.1 hj
 rcases Nat.lt_or_gt_of_ne hij with hlt | hlt
 · exact hp i j hil hjl hlt g ha
 · intro hb
   exact hp j i hjl hil hlt g hb ha
theorem Rws.put (h : Rws w0 w L) {i : Nat} {a b : Rw} (hi : L[i]? = some a) (hB : Below w0.heap.size w0 w1)
    (hk : ∀ g, a.v.ownBlock ≠ some g -> g < w.heap.size -> w1.heap[g]? = w.heap[g]?) (ho : w1.ownsRow w0.heap.size b.T b.k b.v b.n b.xs)
    (hl : ∀ g, b.v.ownBlock = some g -> a.v.ownBlock = some g ∨ w.heap.size <= g) : Rws w0 w1 (L.set i b) := by
 obtain ⟨hil, hia⟩ := l0.1 hi
 refine ⟨hB, fun r hr => ?_, ?_⟩
 · (
 obtain ⟨j, hj, rfl⟩ := List.getElem_of_mem hr
 rw [l7]
 by_cases e : i = j
 · rw [if_pos e]; exact ho
 · rw [if_neg e]
   have hjl : j < L.length := by simpa using hj
   have hjo := h.own L[j] (l8 hjl)
   refine y0n hjo (fun g hg => hk g (fun e2 => ?_) (hjo.lt g hg).2)
   exact h.ne hi (l1 hjl) e e2 hg)
 · (
 rw [l3]
 intro p q hp hq hpq g hg
 rw [List.length_set] at hp hq
 rw [l7] at hg ⊢
 have key : ∀ j (hj : j < L.length), i ≠ j -> b.v.ownBlock = some g -> L[j].v.ownBlock = some g -> False := fun j hj e hb hjg => by (
 rcases hl g hb with h1 | h1
 · exact h.ne hi (l1 hj) e h1 hjg
 · have := ((h.own L[j] (l8 hj)).lt g hjg).2; omega)
 by_cases e1 : i = p
 · rw [if_pos e1] at hg
   rw [if_neg (by omega)]
   exact fun hq2 => key q hq (by omega) hg hq2
 · (
 rw [if_neg e1] at hg
 by_cases e2 : i = q
 · rw [if_pos e2]
   exact fun hb => key p hp e1 hb hg
 · rw [if_neg e2]
   exact h.ne (l1 hp) (l1 hq) (by omega) hg))
theorem Rws.set (h : Rws w0 w L) (i : Nat) {T : TypeId} {k n m g c : Nat} {xs : List Value} (hi : L[i]? = some ⟨T, k, .slice (some ⟨g, 0, none⟩) m c, n, xs⟩) (j : Nat) (u : Value) :
    Rws w0 (w.setCell ⟨g, j, none⟩ u) (L.set i ⟨T, k, .slice (some ⟨g, 0, none⟩) m c, n, xs.set j u⟩) := by
 have ho := h.get hi
 have hmn : m = n := by (
 rcases ho.2 with ⟨h2, _⟩ | ⟨g', cap', cur, hv, _⟩
 · simp at h2
 · simp only [Value.slice.injEq] at hv; exact hv.2.1)
 subst hmn
 obtain ⟨h1, h2⟩ := ho.stored j u
 have hg := (ho.lt g rfl).1
 refine h.put hi (h.bel.setCell hg _) (fun b hb _ => Below.heap_setCell _ _ _ _ (fun e => hb (by simp [Value.ownBlock, e]))) h1 (fun b hb => .inl hb)
theorem Rws.grown {w2 : World} (h : Rws w0 w L) (hB2 : Below w.heap.size w w2) (i : Nat) {T : TypeId} {k n n' : Nat} {v v' : Value} {xs xs' : List Value} (hi : L[i]? = some ⟨T, k, v, n, xs⟩) (ho : w1.ownsRow w0.heap.size T k v' n' xs') (hg : w2.grownBy w1 v.ownBlock)
    (hl : ∀ g, v'.ownBlock = some g -> v.ownBlock = some g ∨ w.heap.size <= g) : Rws w0 w1 (L.set i ⟨T, k, v', n', xs'⟩) :=
  h.put hi ((h.bel.trans (hB2.mono h.bel.size)).grown hg (Nat.le_trans h.bel.size hB2.size) (fun b hb => ((h.get hi).lt b hb).1))
    (fun b hb hl => (hg.block b (l5 hl hB2.size) (fun e => hb e.symm)).trans (hB2.block b hl)) ho hl
theorem Rws.add (h : Rws w0 w L) {T : TypeId} {k n : Nat} {v : Value} {xs : List Value} (hB : Below w.heap.size w w1) (ho : w1.ownsRow w.heap.size T k v n xs) : Rws w0 w1 (⟨T, k, v, n, xs⟩ :: L) where
  bel := h.bel.trans (hB.mono h.bel.size)
  own r hr := by
    rcases m3.1 hr with rfl | hr
    · exact j0r ho h.bel.size
    · exact own_below (h.own r hr) hB
  apart := by
    refine List.pairwise_cons.2 ⟨fun b hb g hg hg2 => ?_, h.apart⟩
    have := (ho.lt g hg).1
    have := ((h.own b hb).lt g hg2).2
    omega
theorem Rws.addNil (h : Rws w0 w L) (T : TypeId) (k : Nat) : Rws w0 w (⟨T, k, .slice none 0 0, 0, []⟩ :: L) :=
  h.add (Below.refl _ _) (World.ownsRow_nil _ _ _ _)
theorem Rws.addLit (h : Rws w0 w L) (cs : Array Value) (T : TypeId) {k n : Nat} (hm : n <= maxLen) (hs : cs.size = n * k) : Rws w0 (w.alloc (.cells cs T)) (⟨T, k, .slice (some ⟨w.heap.size, 0, none⟩) n n, n, cs.toList⟩ :: L) :=
  h.add ((Below.refl _ _).alloc (l4 _) _) (World.ownsRow_lit w cs n (l4 _) hm hs)
theorem Rws.perm {L' : List Rw} (h : Rws w0 w L) (hp : L.Perm L') : Rws w0 w L' :=
  ⟨h.bel, fun r hr => h.own r (hp.mem_iff.2 hr), h.apart.perm hp (fun {_ _} h1 g hg hg2 => h1 g hg2 hg)⟩
theorem Rws.sub {L' : List Rw} (h : Rws w0 w L) (hs : L'.Sublist L) : Rws w0 w L' :=
  ⟨h.bel, fun r hr => h.own r (hs.subset hr), h.apart.sublist hs⟩
theorem Rws.form (h : Rws w0 w L) {i : Nat} {T : TypeId} {k n : Nat} {v : Value} {xs : List Value} (hi : L[i]? = some ⟨T, k, v, n, xs⟩) (hn : 0 < n) : ∃ g c, v = .slice (some ⟨g, 0, none⟩) n c /\ n <= c /\ c <= maxLen /\ w0.heap.size <= g /\ g < w.heap.size := by
 have ho := h.get hi
 rcases ho.2 with ⟨_, h2⟩ | ⟨g, c, cur, hv, hb, hg, h3, h4, _⟩
 · have h2 : n = 0 := h2
   omega
 · exact ⟨g, c, hv, h3, h4, hb, (Array.getElem?_eq_some_iff.1 hg).1⟩
theorem Rws.cell (h : Rws w0 w L) {i : Nat} {T : TypeId} {k n m g c : Nat} {xs : List Value} (hi : L[i]? = some ⟨T, k, .slice (some ⟨g, 0, none⟩) m c, n, xs⟩) {j : Nat} {u : Value} (hj : xs[j]? = some u) : w.cell? ⟨g, j, none⟩ = some u := by
 have ho := h.get hi
 have := ho.cells rfl j u hj
 have hadd : (⟨g, 0, none⟩ : Addr).add j = ⟨g, j, none⟩ := by unfold Addr.add; split <;> simp_all
 rwa [hadd] at this
theorem Rws.fz (h : Rws w0 w L) {i : Nat} {T : TypeId} {k n m g c : Nat} {xs : List Value} (hi : L[i]? = some ⟨T, k, .slice (some ⟨g, 0, none⟩) m c, n, xs⟩) (j : Nat) : w.frozen? ⟨g, j, none⟩ = false := by
 have ho := h.get hi
 rcases ho.2 with ⟨h2, _⟩ | ⟨g', c', cur, hv, _, hg, _⟩
 · simp at h2
 · simp only [Value.slice.injEq, Option.some.injEq, Addr.mk.injEq, and_true] at hv
   obtain ⟨rfl, _⟩ := hv
   simp [World.frozen?, hg]
theorem Rws.lt (h : Rws w0 w L) {i : Nat} {T : TypeId} {k n m g c : Nat} {xs : List Value} (hi : L[i]? = some ⟨T, k, .slice (some ⟨g, 0, none⟩) m c, n, xs⟩) : w0.heap.size <= g /\ g < w.heap.size := (h.get hi).lt g rfl
theorem Rws.sl (h : Rws w0 w L) {α : Type} {enc : α -> List Value} {i : Nat} {T : TypeId} {k n : Nat} {v : Value} {ys : List α} (hi : L[i]? = some ⟨T, k, v, n, ys.flatMap enc⟩) (hk : ∀ x, (enc x).length = k) (hn : n = ys.length) :
    ∃ a c b, v = .slice a ys.length c /\ ys.length <= c /\ c <= maxLen /\ SlAt enc k w a b 0 ys /\ (0 < ys.length -> w0.heap.size <= b) := by
 subst hn
 exact j0d hk (h.get hi)
end
theorem j0y {P : Program} {w : World} {ops : Array Oper} {rest : List Oper} {o : Oper} {a : Act} {Q : Exit -> Act -> World -> Prop} (hgd : o.guard = none) (s x : Operand) (t : TypeId)
    (ho : o.op = .call { callee := .builtin .append, args := #[s, x], argTypes := #[t, t] })
    {e : TypeId} {size bytes : Nat} {z : Value} (R : IsRow P t e size bytes z) {base : Nat} (hb0 : base <= w.heap.size)
    {v : Value} {n : Nat} {xs : List Value} (hs : a.eval s = v) (hown : w.ownsRow base e size v n xs)
    (ad : Addr) (m c : Nat) (news : List Value) (hx : a.eval x = .slice (some ad) m c) (hl : news.length = m * size) (hnews : ∀ j u, news[j]? = some u -> w.cell? (ad.add j) = some u) (h1 : ∀ u ∈ news, u.oneCell' = true) (hm : 0 < m)
    (hbytes : (n + m) * bytes <= 140737488355328) (hmax : n + m <= maxLen) (B : Nat) (hB : B <= w.heap.size)
    (h : ∀ g cap w', w'.ownsRow base e size (.slice (some ⟨g, 0, none⟩) (n + m) cap) (n + m) (xs ++ news) -> w.grownBy w' v.ownBlock -> (v.ownBlock = some g ∨ B <= g) -> g < w'.heap.size -> wpList P ops Q rest (a.put o.dst (.slice (some ⟨g, 0, none⟩) (n + m) cap)) w') : wpList P ops Q (o :: rest) a w := by
 obtain ⟨i, hi, hz, hsz, hby⟩ := R.info
 exact wpList_plain hgd fun _ hK => wp_append_lies w s x t ho base e i z size bytes R.ht hi hz hsz hby R.zs R.pos v n xs hs hown ad m c news hx hl hnews h1 hm hmax hbytes hb0 w.heap.size rfl (fun g cap w' h2 h3 h4 h5 => hK _ _ (h g cap w' h2 h3 (h4.imp_right (fun e => by omega)) h5))
theorem j1v {P : Program} {w : World} {ops : Array Oper} {o : Oper} {a : Act} {K : Act -> World -> Prop} {Q : Exit -> Act -> World -> Prop} {F : Prop} (hgd : o.guard = none) (s x : Operand) (t : TypeId)
    (ho : o.op = .call { callee := .builtin .append, args := #[s, x], argTypes := #[t, t] })
    {e : TypeId} {size bytes : Nat} {z : Value} (R : IsRow P t e size bytes z) {base : Nat} (hb0 : base <= w.heap.size)
    {v : Value} {n : Nat} {xs : List Value} (hs : a.eval s = v) (hown : w.ownsRow base e size v n xs)
    (ad : Addr) (m c : Nat) (news : List Value) (hx : a.eval x = .slice (some ad) m c) (hl : news.length = m * size) (hnews : ∀ j u, news[j]? = some u -> w.cell? (ad.add j) = some u) (h1 : ∀ u ∈ news, u.oneCell' = true) (hm : 0 < m)
    (hbytes : (n + m) * bytes <= 140737488355328) (hmax : n + m <= maxLen) (B : Nat) (hB : B <= w.heap.size)
    (h : ∀ g cap w', w'.ownsRow base e size (.slice (some ⟨g, 0, none⟩) (n + m) cap) (n + m) (xs ++ news) -> w.grownBy w' v.ownBlock -> (v.ownBlock = some g ∨ B <= g) -> g < w'.heap.size -> K (a.put o.dst (.slice (some ⟨g, 0, none⟩) (n + m) cap)) w') :
    if Region.wanted o (yielded ops a.tmps) = true then Oper.wp P o a w K Q else F := by
 have hw : Region.wanted o (yielded ops a.tmps) = true := by simp [Region.wanted, hgd]
 rw [if_pos hw]
 obtain ⟨i, hi, hz, hsz, hby⟩ := R.info
 exact wp_append_lies w s x t ho base e i z size bytes R.ht hi hz hsz hby R.zs R.pos v n xs hs hown ad m c news hx hl hnews h1 hm hmax hbytes hb0 w.heap.size rfl (fun g cap w' h2 h3 h4 h5 => h g cap w' h2 h3 (h4.imp_right (fun e => by omega)) h5)
end Go.Proofs.YtbaccmlfnbgehaaGreatDoor
namespace Go.Proofs.YtbaccmlfnbgehaaGreatDoor
open Go.RowKit Pl
theorem j1f {α : Type} {enc : α -> List Value} {k : Nat} {w : World} {a : Option Addr} {ad : Addr} {b off : Nat} {xs : List α} (hk : ∀ x, (enc x).length = k) (h1 : ∀ x, ∀ u ∈ enc x, u.oneCell' = true) (hS : SlAt enc k w a b off xs) (ha : a = some ad) :
    (∀ j u, (xs.flatMap enc)[j]? = some u -> w.cell? (ad.add j) = some u) /\ (∀ u ∈ xs.flatMap enc, u.oneCell' = true) /\ (xs.flatMap enc).length = xs.length * k := by
 refine ⟨fun j u hu => ?_, fun u hu => ?_, j0b hk xs⟩
 · (
 have hp : 0 < xs.length := by (
 rcases l6 xs.length with h | h
 · rw [l2 h] at hu; simp at hu
 · exact h)
 have had := hS.ad hp
 rw [ha] at had
 cases had
 exact q0m hk hS j u hu)
 · obtain ⟨y, _, hy⟩ := List.mem_flatMap.1 hu
   exact h1 y u hy
theorem x1l {P : Program} {w : World} {ops : Array Oper} {rest : List Oper} {o : Oper} {a : Act} {Q : Exit -> Act -> World -> Prop} (hgd : o.guard = none) (s x : Operand) (t : TypeId)
    (ho : o.op = .call { callee := .builtin .append, args := #[s, x], argTypes := #[t, t] })
    {e : TypeId} {size bytes : Nat} {z : Value} (R : IsRow P t e size bytes z) {base : Nat} (hb0 : base <= w.heap.size)
    {v : Value} {n : Nat} {xs : List Value} (hs : a.eval s = v) (hown : w.ownsRow base e size v n xs)
    {α : Type} {enc : α -> List Value} {ys : List α} {sa : Option Addr} {b off c : Nat} (hk : ∀ x, (enc x).length = size) (h1 : ∀ x, ∀ u ∈ enc x, u.oneCell' = true) (hS : SlAt enc size w sa b off ys) (hx : a.eval x = .slice sa ys.length c)
    (hbytes : (n + ys.length) * bytes <= 140737488355328) (hmax : n + ys.length <= maxLen)
    (h : ∀ v' w', w'.ownsRow base e size v' (n + ys.length) (xs ++ ys.flatMap enc) -> w.grownBy w' v.ownBlock -> wpList P ops Q rest (a.put o.dst v') w') : wpList P ops Q (o :: rest) a w := by
 cases sa with
 | some ad =>
   obtain ⟨g1, g2, g3⟩ := j1f hk h1 hS rfl
   exact p0e (w0 := w) hgd s x t ho R (Below.refl base w) hb0 hs hown ad ys.length c _ hx g3 g1 g2 hbytes hmax (fun v' w' h2 _ h3 => h v' w' h2 h3)
 | none => (
 have h0 : ys = [] := by (
 rcases l6 ys.length with h | h
 · exact l2 h
 · have := hS.ad h; cases this)
 subst h0
 obtain ⟨i, hi, _⟩ := R.info
 refine wpList_plain hgd fun K hK => ?_
 have hrun : (Builtin.append_ #[t, t] o.type #[v, .slice none 0 c]).run P w = .ok v w := by (
 rcases hown.2 with ⟨rfl, rfl⟩ | ⟨g, cap, cur, rfl, _, _, hnc, _⟩
 · simp [Builtin.append_, run_underlying R.ht, sizeOf, typeInfo, hi, Builtin.lenOf, Builtin.firstCells]
 · simp [Builtin.append_, run_underlying R.ht, sizeOf, typeInfo, hi, Builtin.lenOf, Builtin.firstCells, hnc, storeCells])
 have hx' : a.eval x = .slice none 0 c := hx
 unfold Oper.wp
 simp [execOp, ho, resolve, invoke, builtin, hs, hx', hrun, Result.andThen]
 exact hK _ _ (h v w (by simpa using hown) ⟨rfl, rfl, rfl, l4 _, fun _ _ _ => rfl⟩))
end Go.Proofs.YtbaccmlfnbgehaaGreatDoor
namespace Go.Proofs.YtbaccmlfnbgehaaGreatDoor
open Go.RowKit Pl
theorem v1b {k : Nat} (h : k < 64) : 2 ^ k < 18446744073709551616 := l5 (Nat.pow_lt_pow_right (by decide) h) (by decide)
theorem y2a {k : Nat} (h : k < 64) : IntKind.u64.wrap ((2 : Int) ^ k) = ((2 ^ k : Nat) : Int) := by
 have h1 := v1b h
 have h2 : ((2 : Int) ^ k) = ((2 ^ k : Nat) : Int) := by simp
 rw [h2, IntKind.wrap_u64]
 obtain ⟨y, hy⟩ : ∃ y, y = 2 ^ k := ⟨_, rfl⟩
 rw [<- hy] at h1 ⊢
 omega
end Go.Proofs.YtbaccmlfnbgehaaGreatDoor
namespace Go.Proofs.YtbaccmlfnbgehaaGreatDoor
open Go.RowKit Pl
def Tab (w : World) : Prop := Go.Proofs.TabAt 12 Lib.deBruijn64tab w
theorem Tab.below {w w' : World} (h : Tab w) (hB : Below w.heap.size w w') : Tab w' := fun j hj => by
  have hc := h j hj
  rw [hB.cell (p := ⟨12, j, none⟩) (World.block_lt_of_cell? _ _ hc)]; exact hc
set_option maxRecDepth 100000 in
set_option maxHeartbeats 1000000 in
theorem k3i {w : World} (hT : Tab w) {x : Nat} (h0 : x ≠ 0) (hx : x < 18446744073709551616) :
    Calls prog 104 #[.int .u64 x] w fun e w' => e = .returned (.int .i64 (Lib.ctz 64 x)) /\ w = w' := by
 obtain ⟨hlow, hk⟩ := Lib.lowest_bit 64 x h0 hx
 obtain ⟨hi, htab⟩ := Lib.deBruijn64_at _ hk
 have hcell := hT _ hi
 rw [htab] at hcell
 have key := Go.Proofs.tz64_key x _ hx h0 hlow
 have hx0 : ((x : Int) == 0) = false := by simp; omega
 obtain ⟨k, hkk⟩ : ∃ k, k = Lib.ctz 64 x := ⟨_, rfl⟩
 rw [<- hkk] at hcell hk key hi ⊢
 obtain ⟨idx, hidx⟩ : ∃ idx, idx = 2 ^ k * 285870213051353865 % 18446744073709551616 / 288230376151711744 := ⟨_, rfl⟩
 rw [<- hidx] at hcell key hi
 have HKEY := Lib.hid key
 clear key hidx hlow htab hx h0 hkk hT
 go_enter func104, ntmps104
 go_wp2_with (simp only [HKEY.out])
 go_ret
 exact ⟨rfl, rfl⟩
def intsOf (L : List Nat) : List Int := L.map Int.ofNat
theorem j0p (L : List Nat) : (intsOf L).length = L.length := by simp [intsOf]
end Go.Proofs.YtbaccmlfnbgehaaGreatDoor
namespace Go.Proofs.YtbaccmlfnbgehaaGreatDoor
namespace Pl
theorem z0r {s : Lts} (hr : s.Right) {n : Nat} (hn : s.st = (n : Int)) {p t : Nat} {l : Int} (h : stp s p l t) : p < n /\ t < n /\ 0 <= l /\ l < s.lb := by
 have := j0g.1 (hr.edges _ h)
 simp only at this
 omega
/-! rounds -/
end Pl
end Go.Proofs.YtbaccmlfnbgehaaGreatDoor
namespace Go.Proofs.YtbaccmlfnbgehaaGreatDoor
namespace Pl
open Go.Lib
/-! decimal numerals -/
/-! more classes -/
theorem y0o : ∀ (L M : List Int), L.Nodup -> (∀ x ∈ L, x ∈ M) -> L.length <= M.length
  | [], M, _, _ => Nat.zero_le _
  | x :: L, M, hn, hs => by
    rw [m1] at hn
    have ih := y0o L (M.erase x) hn.2 (fun y hy => (List.mem_erase_of_ne (fun e : y = x => hn.1 (e ▸ hy))).2 (hs y (List.mem_cons_of_mem _ hy)))
    have h1 := List.length_erase_of_mem (hs x (by simp))
    have h2 := List.length_pos_of_mem (hs x (by simp))
    rw [l9]; omega
theorem k0t {n : Nat} {C : Nat -> Int} {c : Int} : c ∈ dist (fl n C) ↔ ∃ p, p < n /\ C p = c := by
 rw [k0l]; unfold fl; rw [m0]
 exact ⟨fun ⟨p, h1, h2⟩ => ⟨p, m2.1 h1, h2⟩, fun ⟨p, h1, h2⟩ => ⟨p, m2.2 h1, h2⟩⟩
theorem q1p {n : Nat} {C D : Nat -> Int} (h : ∀ p q, p < n -> q < n -> D p = D q -> C p = C q) {a b : Nat} (ha : a < n) (hb : b < n) (e1 : C a = C b) (e2 : D a ≠ D b) : (dist (fl n C)).length < (dist (fl n D)).length := by
 have hex : ∀ c : Int, ∃ p : Nat, c ∈ dist (fl n C) -> p < n /\ C p = c := fun c => by (
 by_cases hc : c ∈ dist (fl n C)
 · obtain ⟨p, hp⟩ := k0t.1 hc
   exact ⟨p, fun _ => hp⟩
 · exact ⟨0, fun h => absurd h hc⟩)
 obtain ⟨r, hr⟩ := Classical.axiomOfChoice hex
 have hca : C a ∈ dist (fl n C) := k0t.2 ⟨a, ha, rfl⟩
 obtain ⟨x, hxm, hxn⟩ : ∃ x, x ∈ dist (fl n D) /\ x ∉ (dist (fl n C)).map (fun c => D (r c)) := by (
 have key : ∀ z, z < n -> C z = C a -> D z ∈ (dist (fl n C)).map (fun c => D (r c)) -> D z = D (r (C a)) := fun z hz e hm => by (
 obtain ⟨c, hc, hcz⟩ := m0.1 hm
 have h1 := hr c hc
 have h2 := h (r c) z h1.1 hz hcz
 rw [h1.2, e] at h2
 rw [<- hcz, h2])
 by_cases k1 : D a ∈ (dist (fl n C)).map (fun c => D (r c))
 · refine ⟨D b, k0t.2 ⟨b, hb, rfl⟩, fun k2 => e2 ?_⟩
   rw [key a ha rfl k1, key b hb e1.symm k2]
 · exact ⟨D a, k0t.2 ⟨a, ha, rfl⟩, k1⟩)
 have hnd : (x :: (dist (fl n C)).map (fun c => D (r c))).Nodup := by (
 rw [m1]
 refine ⟨hxn, ?_⟩
 rw [List.Nodup, List.pairwise_map]
 refine List.Pairwise.imp_of_mem ?_ (x0b (fl n C))
 intro c d hc hd hcd e
 have k1 := hr c hc; have k2 := hr d hd
 have := h (r c) (r d) k1.1 k2.1 e
 rw [k1.2, k2.2] at this
 exact hcd this)
 have := y0o _ (dist (fl n D)) hnd (fun y hy => by (
 rcases m3.1 hy with rfl | h1
 · exact hxm
 · obtain ⟨c, hc, rfl⟩ := m0.1 h1
   exact k0t.2 ⟨r c, (hr c hc).1, rfl⟩))
 rw [l9, List.length_map] at this
 omega
theorem u0b {n : Nat} {C D : Nat -> Int} (h1 : canon (fl n C) = fl n C) (h2 : canon (fl n D) = fl n D) (h : ∀ p q, p < n -> q < n -> (C p = C q ↔ D p = D q)) : fl n C = fl n D := by
 rw [<- h1, <- h2, x0f (by rw [j0v, j0v])]
 intro i k x y x' y' hki hx hy hx' hy'
 have hi : i < n := by have := (l0.1 hx).1; rwa [j0v] at this
 have hk : k < n := by omega
 rw [j0t C hi] at hx; rw [j0t C hk] at hy; rw [j0t D hi] at hx'; rw [j0t D hk] at hy'
 cases hx; cases hy; cases hx'; cases hy'
 exact h i k hi hk
end Pl
end Go.Proofs.YtbaccmlfnbgehaaGreatDoor
namespace Go.Proofs.YtbaccmlfnbgehaaGreatDoor
namespace Pl
def asF (n : Nat) (f : Nat -> Int) (p : Nat) : Nat := (clf n f p).toNat
theorem x0e {n : Nat} {f : Nat -> Int} {p : Nat} (hp : p < n) : clf n f p = (asF n f p : Int) := by
 have := (q0g (f := f) hp).1
 unfold asF; omega
theorem p3n {n : Nat} {f : Nat -> Int} {p : Nat} (hp : p < n) : asF n f p < (dist (fl n f)).length := by
 have := q0g (f := f) hp
 unfold asF; omega
section
variable {s : Lts} {n : Nat} {f : Nat -> Int}
theorem v2u (hc : Cyc s n f) {x y : Nat} (hx : x < n) (hy : y < n) : asF n f x = asF n f y ↔ TR s x y /\ TR s y x := by
 rw [<- hc.same x y hx hy, <- x2n (f := f) hx hy, x0e hx, x0e hy]
 omega
theorem u2v (hr : s.Right) (hn : s.st = (n : Int)) {X Y : Nat} {l : Int} : stp (col s (fl n (clf n f))) X l Y ↔ ∃ x y, x < n /\ y < n /\ stp s x l y /\ asF n f x = X /\ asF n f y = Y /\ ¬ (l = 0 /\ X = Y) := by
 unfold stp col
 simp only
 rw [p0j y0k, k1n]
 constructor
 · (
 rintro ⟨⟨x, l', y⟩, h1, h2, h3⟩
 have h4 := j0g.1 (hr.edges _ h1)
 simp only at h4 h2 h3
 obtain ⟨x, rfl⟩ := Int.eq_ofNat_of_zero_le h4.1
 obtain ⟨y, rfl⟩ := Int.eq_ofNat_of_zero_le h4.2.2.2.2.1
 have hx : x < n := by omega
 have hy : y < n := by omega
 simp only [Prod.mk.injEq] at h2
 obtain ⟨e1, rfl, e3⟩ := h2
 rw [z0c (by omega) (by omega)] at e1 e3
 simp only [Int.toNat_natCast] at e1 e3
 rw [x0e hx] at e1
 rw [x0e hy] at e3
 exact ⟨x, y, hx, hy, h1, by omega, by omega, fun h => h3 ⟨h.1, by omega⟩⟩)
 · (
 rintro ⟨x, y, hx, hy, h1, rfl, rfl, h3⟩
 refine ⟨((x : Int), l, (y : Int)), h1, ?_, fun h => h3 ⟨h.1, by simp only at h; omega⟩⟩
 simp only
 rw [z0c (by omega) (by omega), z0c (by omega) (by omega)]
 simp only [Int.toNat_natCast]
 rw [x0e hx, x0e hy])
end
/-! signatures as lists -/
end Pl
end Go.Proofs.YtbaccmlfnbgehaaGreatDoor
namespace Go.Proofs.YtbaccmlfnbgehaaGreatDoor
namespace Pl
end Pl
end Go.Proofs.YtbaccmlfnbgehaaGreatDoor
