/-
  Lemmas.
-/
import Derived.Test.YtgikimbafakmcaaGreatDoorGPl1
import Derived.Test.YtgikimbafakmcaaGreatDoorGPlS
import Derived.Lib.TrailingZeros
import Derived.Test.YtgikimbafakmcaaGreatDoorChecked
import Derived.WalkKit
import Derived.WalkSpells
import Derived.WalkLawsBesides
import Derived.Lib.Hide
import Derived.Deep.OwnRows
import Derived.Deep.AppendLies
namespace Go.Proofs.YtgikimbafakmcaaGreatDoor
namespace Pl
def nUp (xs : List Int) (i : Nat) : Nat := (dist (xs.take i)).length
theorem nUp_le (xs : List Int) (i : Nat) : nUp xs i <= i := by
 unfold nUp; have := dist_len (xs.take i); simp at this; omega
theorem nUp_snoc {xs : List Int} {i : Nat} {x : Int} (h : xs[i]? = some x) : xs.take (i + 1) = xs.take i ++ [x] := by
 obtain ⟨hl, rfl⟩ := List.getElem?_eq_some_iff.1 h
 exact List.take_succ_eq_append_getElem hl
theorem nUp_canon {xs : List Int} {i : Nat} {x : Int} (h : xs[i]? = some x) :
    (if (nUp xs i : Int) <= ((dist xs).idxOf x : Int) then ((dist xs).idxOf x : Int) + 1 else (nUp xs i : Int)) = nUp xs (i + 1) := by
 have h3 := idx_append (xs.take (i + 1)) (xs.drop (i + 1)) (y := x) (by rw [nUp_snoc h]; simp)
 rw [List.take_append_drop] at h3
 rw [h3]
 unfold nUp
 rw [nUp_snoc h, dist_snoc]
 by_cases hm : x ∈ dist (xs.take i)
 · rw [idx_addN hm]
   have := List.idxOf_lt_length_of_mem hm
   unfold addN
   rw [if_pos hm, if_neg (by omega)]
 · rw [idx_new hm]
   unfold addN
   rw [if_neg hm, if_pos (by omega)]
   simp
end Pl
end Go.Proofs.YtgikimbafakmcaaGreatDoor
namespace Go.Proofs.YtgikimbafakmcaaGreatDoor
namespace Pl
def atL (c : List Int) (x : Int) : Int := c.getD x.toNat 0
section
variable {s : Lts} {n : Nat} {f : Nat -> Int}
theorem dist_le (n : Nat) (f : Nat -> Int) : (dist (fl n f)).length <= n := by have := dist_len (fl n f); rw [fl_len] at this; exact this
end
end Pl
end Go.Proofs.YtgikimbafakmcaaGreatDoor
namespace Go.Proofs.YtgikimbafakmcaaGreatDoor
namespace Pl
section
variable {s : Lts} {n : Nat}
def MetP (s : Lts) (n : Nat) (C : Nat -> Int) (p q : Nat) : Prop := ∀ l t, t < n -> stp s p l t -> ∃ u, u < n /\ stp s q l u /\ C u = C t
theorem Big.met {C : Nat -> Int} (h : Big s n C) {p q : Nat} (hp : p < n) (hq : q < n) (e : C p = C q) : MetP s n C p q := fun l t ht hs => by
  obtain ⟨u, hu, h1, h2⟩ := (h.bis p q hp hq e).1 l t ht hs
  exact ⟨u, hu, h1, h2.symm⟩
theorem Big.join {C : Nat -> Int} (h : Big s n C) {p q : Nat} (hp : p < n) (hq : q < n) (h1 : MetP s n C p q) (h2 : MetP s n C q p) : C p = C q := by
 have key : ∀ p q, p < n -> q < n -> MetP s n C p q -> ∀ a b, a < n -> b < n -> C a = C p -> C b = C q -> ∀ l t, t < n -> stp s a l t -> ∃ u, u < n /\ stp s b l u /\ C t = C u := by (
 intro p q hp hq hm a b ha hb ea eb l t ht hs
 obtain ⟨t', ht', s1, e1⟩ := (h.bis a p ha hp ea).1 l t ht hs
 obtain ⟨u', hu', s2, e2⟩ := hm l t' ht' s1
 obtain ⟨u, hu, s3, e3⟩ := (h.bis q b hq hb eb.symm).1 l u' hu' s2
 exact ⟨u, hu, s3, by rw [e1, <- e2, e3]⟩)
 refine h.all (fun a b => C a = C b ∨ (C a = C p /\ C b = C q) ∨ (C a = C q /\ C b = C p)) (fun a b ha hb hab => ?_) p q hp hq (.inr (.inl ⟨rfl, rfl⟩))
 rcases hab with e | ⟨e1, e2⟩ | ⟨e1, e2⟩
 · (
 obtain ⟨c1, c2⟩ := h.bis a b ha hb e
 refine ⟨fun l t ht hs => ?_, fun l u hu hs => ?_⟩
 · obtain ⟨u, hu, s1, e1⟩ := c1 l t ht hs
   exact ⟨u, hu, s1, .inl e1⟩
 · obtain ⟨t, ht, s1, e1⟩ := c2 l u hu hs
   exact ⟨t, ht, s1, .inl e1⟩)
 · refine ⟨fun l t ht hs => ?_, fun l u hu hs => ?_⟩
   · obtain ⟨u, hu, s1, e3⟩ := key p q hp hq h1 a b ha hb e1 e2 l t ht hs
     exact ⟨u, hu, s1, .inl e3⟩
   · obtain ⟨t, ht, s1, e3⟩ := key q p hq hp h2 b a hb ha e2 e1 l u hu hs
     exact ⟨t, ht, s1, .inl e3.symm⟩
 · refine ⟨fun l t ht hs => ?_, fun l u hu hs => ?_⟩
   · obtain ⟨u, hu, s1, e3⟩ := key q p hq hp h2 a b ha hb e1 e2 l t ht hs
     exact ⟨u, hu, s1, .inl e3⟩
   · obtain ⟨t, ht, s1, e3⟩ := key p q hp hq h1 b a hb ha e2 e1 l u hu hs
     exact ⟨t, ht, s1, .inl e3.symm⟩
end
end Pl
end Go.Proofs.YtgikimbafakmcaaGreatDoor
namespace Go.Proofs.YtgikimbafakmcaaGreatDoor
namespace Pl
section
variable {t : Lts}
def Wt (t : Lts) (D : List Nat) (k : Nat) : Nat := ((taus t k).filter (fun y => !decide (y ∈ D))).length
end
end Pl
end Go.Proofs.YtgikimbafakmcaaGreatDoor
namespace Go.Proofs.YtgikimbafakmcaaGreatDoor
namespace Pl
def pushL (out : List E) (e : E) : List E := if out.getLast? = some e then out else out ++ [e]
structure Mrg (a b out : List E) (i k : Nat) : Prop where
  srt : Srt ltE out
  mem : ∀ x, x ∈ out ↔ x ∈ a.take i ∨ x ∈ b.take k
  la : ∀ o ∈ out, ∀ x ∈ a.drop i, ltE x o = false
  lb : ∀ o ∈ out, ∀ x ∈ b.drop k, ltE x o = false
theorem Mrg.nil (a b : List E) : Mrg a b [] 0 0 := ⟨by simp [Srt], by simp, by simp, by simp⟩
theorem srt_pushL {out : List E} {e : E} (h : Srt ltE out) (he : ∀ o ∈ out, ltE e o = false) : Srt ltE (pushL out e) /\ ∀ x, x ∈ pushL out e ↔ x ∈ out ∨ x = e := by
 unfold pushL
 by_cases hl : out.getLast? = some e
 · rw [if_pos hl]
   have hm : e ∈ out := List.mem_of_getLast? hl
   exact ⟨h, fun x => ⟨.inl, fun hx => by rcases hx with hx | rfl; exact hx; exact hm⟩⟩
 · rw [if_neg hl]
   refine ⟨?_, fun x => by simp⟩
   unfold Srt at *
   rw [List.pairwise_append]
   refine ⟨h, by simp, fun o ho x hx => ?_⟩
   simp at hx; subst hx
   -- o is the last, or ahead of the last
   obtain ⟨l, z, rfl⟩ : ∃ l z, out = l ++ [z] := by
     rcases List.eq_nil_or_concat out with rfl | ⟨l, z, hz⟩
     · simp at ho
     · exact ⟨l, z, by simpa using hz⟩
   have hz : z ≠ x := by rintro rfl; simp at hl
   have hzx : ltE z x = true := by
     rcases stoE.total z x with h1 | h1 | h1
     · exact h1
     · exact absurd h1 hz
     · rw [he z (by simp)] at h1; cases h1
   rcases List.mem_append.1 ho with h1 | h1
   · have := (List.pairwise_append.1 h).2.2 o h1 z (by simp)
     exact stoE.trans _ _ _ this hzx
   · simp at h1; subst h1; exact hzx
theorem asymE {a b : E} (h : ltE a b = true) : ltE b a = false := by
 rw [Bool.eq_false_iff]; intro h2
 have := stoE.trans _ _ _ h h2
 rw [stoE.irrefl] at this; cases this
theorem notBelow {b : List E} {k : Nat} {x e : E} (h : Srt ltE b) (hk : b[k]? = some x) (hx : ltE x e = false) : ∀ y ∈ b.drop k, ltE y e = false := by
 intro y hy
 obtain ⟨j, hj⟩ := List.getElem?_of_mem hy
 rw [List.getElem?_drop] at hj
 by_cases h0 : j = 0
 · subst h0; rw [Nat.add_zero, hk] at hj; cases hj; exact hx
 · (
 obtain ⟨h1, e1⟩ := List.getElem?_eq_some_iff.1 hk
 obtain ⟨h2, e2⟩ := List.getElem?_eq_some_iff.1 hj
 have := List.pairwise_iff_getElem.1 h k (k + j) h1 h2 (by omega)
 rw [e1, e2] at this
 rw [Bool.eq_false_iff]; intro h3
 rw [stoE.trans _ _ _ this h3] at hx; cases hx)
theorem Mrg.pushA {a b out : List E} {i k : Nat} {e : E} (h : Mrg a b out i k) (ha : Srt ltE a) (hi : a[i]? = some e) (hb : ∀ y ∈ b.drop k, ltE y e = false) : Mrg a b (pushL out e) (i + 1) k := by
 obtain ⟨hil, hie⟩ := List.getElem?_eq_some_iff.1 hi
 have hd : a.drop i = e :: a.drop (i + 1) := by rw [List.drop_eq_getElem_cons hil, hie]
 have hlo : ∀ o ∈ out, ltE e o = false := fun o ho => h.la o ho e (by rw [hd]; simp)
 obtain ⟨h1, h2⟩ := srt_pushL h.srt hlo
 refine ⟨h1, fun x => ?_, fun o ho x hx => ?_, fun o ho x hx => ?_⟩
 · (
 rw [h2, h.mem, List.take_succ_eq_append_getElem hil, hie, List.mem_append, List.mem_singleton]
 constructor
 · rintro ((h | h) | h)
   · exact .inl (.inl h)
   · exact .inr h
   · exact .inl (.inr h)
 · rintro ((h | h) | h)
   · exact .inl (.inl h)
   · exact .inr h
   · exact .inl (.inr h))
 · rcases (h2 o).1 ho with h3 | rfl
   · exact h.la o h3 x (by rw [hd]; simp [hx])
   · have hs : Srt ltE (a.drop i) := List.Pairwise.drop ha
     rw [hd] at hs
     exact asymE ((List.pairwise_cons.1 hs).1 x hx)
 · rcases (h2 o).1 ho with h3 | rfl
   · exact h.lb o h3 x hx
   · exact hb x hx
theorem Mrg.swap {a b out : List E} {i k : Nat} (h : Mrg a b out i k) : Mrg b a out k i := ⟨h.srt, fun x => by rw [h.mem]; exact Or.comm, h.lb, h.la⟩
theorem Mrg.pushB {a b out : List E} {i k : Nat} {e : E} (h : Mrg a b out i k) (hb : Srt ltE b) (hi : b[k]? = some e) (ha : ∀ y ∈ a.drop i, ltE y e = false) : Mrg a b (pushL out e) i (k + 1) :=
  (h.swap.pushA hb hi ha).swap
theorem Mrg.done {a b out l : List E} (h : Mrg a b out a.length b.length) (hm : ∀ x, x ∈ l ↔ x ∈ a ∨ x ∈ b) : out = nf ltE l :=
  eq_nf stoE h.srt (fun x => by rw [h.mem, List.take_length, List.take_length, hm])
theorem Mrg.len {out : List E} {e : E} : (pushL out e).length <= out.length + 1 := by
 unfold pushL; split <;> simp
theorem half_mem (l : List E) (m : Nat) (x : E) : x ∈ l ↔ x ∈ nf ltE (l.take m) ∨ x ∈ nf ltE (l.drop m) := by
 rw [mem_nf stoE, mem_nf stoE, <- List.mem_append, List.take_append_drop]
theorem nf_short {l : List E} (h : l.length < 2) : nf ltE l = l := by
 match l, h with
 | [], _ => rfl
 | [x], _ => rfl
 | _ :: _ :: _, h => simp at h; omega
end Pl
end Go.Proofs.YtgikimbafakmcaaGreatDoor
namespace Go.Proofs.YtgikimbafakmcaaGreatDoor
namespace Pl
end Pl
end Go.Proofs.YtgikimbafakmcaaGreatDoor
namespace Go.Proofs.YtgikimbafakmcaaGreatDoor
namespace Pl
def wd (f : Nat -> Bool) : Nat -> Nat
  | 0 => 0
  | n + 1 => wd f n ||| (if f n then 2 ^ n else 0)
def wj (F : Nat -> Bool) (j : Nat) : Nat := wd (fun k => F (64 * j + k)) 64
def putF (F : Nat -> Bool) (i : Nat) (x : Nat) : Bool := F x || decide (x = i)
end Pl
end Go.Proofs.YtgikimbafakmcaaGreatDoor
namespace Go.Proofs.YtgikimbafakmcaaGreatDoor
open Go.RowKit
structure IsRow (P : Program) (t e : TypeId) (size bytes : Nat) (z : Value) : Prop where
  ht : P.underlying t = some (.slice e)
  info : ∃ i, P.info? e = some i /\ i.zero = some z /\ i.size = size /\ i.bytes = bytes
  zs : z.cells.size = size
  pos : 0 < size
theorem isRow_of {P : Program} {t e : TypeId} {size bytes : Nat} {z : Value} (ht : P.underlying t = some (.slice e))
    (h : (P.info? e).map (fun i => (i.zero, i.size, i.bytes)) = some (some z, size, bytes)) (zs : z.cells.size = size) (pos : 0 < size) : IsRow P t e size bytes z :=
  ⟨ht, by obtain ⟨i, a, b, c, d⟩ := info_parts h; exact ⟨i, a, b, c, d⟩, zs, pos⟩
theorem wpList_app {P : Program} {w : World} {ops : Array Oper} {rest : List Oper} {o : Oper} {a : Act} {Q : Exit -> Act -> World -> Prop} (hgd : o.guard = none) (s x : Operand) (t : TypeId)
    (ho : o.op = .call { callee := .builtin .append, args := #[s, x], argTypes := #[t, t] })
    {e : TypeId} {size bytes : Nat} {z : Value} (R : IsRow P t e size bytes z) {base : Nat} {w0 : World} (hB : Below base w0 w) (hb0 : base <= w.heap.size)
    {v : Value} {n : Nat} {xs : List Value} (hs : a.eval s = v) (hown : w.ownsRow base e size v n xs)
    (ad : Addr) (m c : Nat) (news : List Value) (hx : a.eval x = .slice (some ad) m c) (hl : news.length = m * size) (hnews : ∀ j u, news[j]? = some u -> w.cell? (ad.add j) = some u) (h1 : ∀ u ∈ news, u.oneCell' = true)
    (hbytes : (n + m) * bytes <= 140737488355328) (hmax : n + m <= maxLen)
    (h : ∀ v' w', w'.ownsRow base e size v' (n + m) (xs ++ news) -> Below base w0 w' -> w.grownBy w' v.ownBlock -> wpList P ops Q rest (a.put o.dst v') w') : wpList P ops Q (o :: rest) a w := by
 obtain ⟨i, hi, hz, hsz, hby⟩ := R.info
 refine wpList_append_own w hgd s x t ho base e i z size bytes R.ht hi hz hsz hby R.zs R.pos v n xs hs hown ad m c news hx hl hnews h1 hmax hbytes hb0 ?_
 intro v' w' h1 h2 _
 exact h v' w' h1 (hB.grown h2 hb0 (fun k hk => (hown.lt k hk).1)) h2
theorem step_app {P : Program} {w : World} {ops : Array Oper} {o : Oper} {a : Act} {K : Act -> World -> Prop} {Q : Exit -> Act -> World -> Prop} {E : Prop} (hgd : o.guard = none) (s x : Operand) (t : TypeId)
    (ho : o.op = .call { callee := .builtin .append, args := #[s, x], argTypes := #[t, t] })
    {e : TypeId} {size bytes : Nat} {z : Value} (R : IsRow P t e size bytes z) {base : Nat}
    {v : Value} {n : Nat} {xs : List Value} (hs : a.eval s = v) (hown : w.ownsRow base e size v n xs)
    (ad : Addr) (m c : Nat) (news : List Value) (hx : a.eval x = .slice (some ad) m c) (hl : news.length = m * size) (hnews : ∀ j u, news[j]? = some u -> w.cell? (ad.add j) = some u) (h1 : ∀ u ∈ news, u.oneCell' = true)
    (hbytes : (n + m) * bytes <= 140737488355328) (hmax : n + m <= maxLen) (hbase : base <= w.heap.size)
    (h : ∀ v' w', w'.ownsRow base e size v' (n + m) (xs ++ news) -> w.grownBy w' v.ownBlock -> K (a.put o.dst v') w') :
    if Region.wanted o (yielded ops a.tmps) = true then Oper.wp P o a w K Q else E := by
 have hw : Region.wanted o (yielded ops a.tmps) = true := by simp [Region.wanted, hgd]
 rw [if_pos hw]
 obtain ⟨i, hi, hz, hsz, hby⟩ := R.info
 exact wp_append_own w s x t ho base e i z size bytes R.ht hi hz hsz hby R.zs R.pos v n xs hs hown ad m c news hx hl hnews h1 hmax hbytes hbase (fun v' w' h1 h2 _ => h v' w' h1 h2)
theorem step_app1 {P : Program} {w : World} {ops : Array Oper} {o : Oper} {a : Act} {K : Act -> World -> Prop} {Q : Exit -> Act -> World -> Prop} {E : Prop} (hgd : o.guard = none) (s x : Operand) (t : TypeId)
    (ho : o.op = .call { callee := .builtin .append, args := #[s, x], argTypes := #[t, t] })
    {e : TypeId} {size bytes : Nat} {z : Value} (R : IsRow P t e size bytes z) {base : Nat}
    {v : Value} {n : Nat} {xs : List Value} (hs : a.eval s = v) (hown : w.ownsRow base e size v n xs)
    (ad : Addr) (m c : Nat) (news : List Value) (hx : a.eval x = .slice (some ad) m c) (hl : news.length = m * size) (hnews : ∀ j u, news[j]? = some u -> w.cell? (ad.add j) = some u) (h1 : ∀ u ∈ news, u.oneCell' = true) (hm : 0 < m)
    (hbytes : (n + m) * bytes <= 140737488355328) (hmax : n + m <= maxLen) (hbase : base <= w.heap.size)
    (h : ∀ g cap w', w'.ownsRow base e size (.slice (some ⟨g, 0, none⟩) (n + m) cap) (n + m) (xs ++ news) -> w.grownBy w' v.ownBlock -> K (a.put o.dst (.slice (some ⟨g, 0, none⟩) (n + m) cap)) w') :
    if Region.wanted o (yielded ops a.tmps) = true then Oper.wp P o a w K Q else E := by
 refine step_app hgd s x t ho R hs hown ad m c news hx hl hnews h1 hbytes hmax hbase (fun v' w' h2 h3 => ?_)
 obtain ⟨g, cap, rfl, _⟩ := h2.form (by omega)
 exact h g cap w' h2 h3
theorem wpList_app1 {P : Program} {w : World} {ops : Array Oper} {rest : List Oper} {o : Oper} {a : Act} {Q : Exit -> Act -> World -> Prop} (hgd : o.guard = none) (s x : Operand) (t : TypeId)
    (ho : o.op = .call { callee := .builtin .append, args := #[s, x], argTypes := #[t, t] })
    {e : TypeId} {size bytes : Nat} {z : Value} (R : IsRow P t e size bytes z) {base : Nat} {w0 : World} (hB : Below base w0 w) (hb0 : base <= w.heap.size)
    {v : Value} {n : Nat} {xs : List Value} (hs : a.eval s = v) (hown : w.ownsRow base e size v n xs)
    (ad : Addr) (m c : Nat) (news : List Value) (hx : a.eval x = .slice (some ad) m c) (hl : news.length = m * size) (hnews : ∀ j u, news[j]? = some u -> w.cell? (ad.add j) = some u) (h1 : ∀ u ∈ news, u.oneCell' = true) (hm : 0 < m)
    (hbytes : (n + m) * bytes <= 140737488355328) (hmax : n + m <= maxLen)
    (h : ∀ g cap w', w'.ownsRow base e size (.slice (some ⟨g, 0, none⟩) (n + m) cap) (n + m) (xs ++ news) -> Below base w0 w' -> w.grownBy w' v.ownBlock -> wpList P ops Q rest (a.put o.dst (.slice (some ⟨g, 0, none⟩) (n + m) cap)) w') : wpList P ops Q (o :: rest) a w := by
 refine wpList_app hgd s x t ho R hB hb0 hs hown ad m c news hx hl hnews h1 hbytes hmax (fun v' w' h2 h3 h4 => ?_)
 obtain ⟨g, cap, rfl, _⟩ := h2.form (by omega)
 exact h g cap w' h2 h3 h4
theorem cells1 {w : World} {b : Nat} {u0 : Value} (h : w.cell? ⟨b, 0, none⟩ = some u0) : ∀ j u, [u0][j]? = some u -> w.cell? ((⟨b, 0, none⟩ : Addr).add j) = some u := by
 intro j u hj
 match j, hj with
 | 0, hj => simp at hj; subst hj; simpa [Addr.add] using h
theorem cells2 {w : World} {b : Nat} {u0 u1 : Value} (h : w.cell? ⟨b, 0, none⟩ = some u0) (h1 : w.cell? ⟨b, 1, none⟩ = some u1) : ∀ j u, [u0, u1][j]? = some u -> w.cell? ((⟨b, 0, none⟩ : Addr).add j) = some u := by
 intro j u hj
 match j, hj with
 | 0, hj => simp at hj; subst hj; simpa [Addr.add] using h
 | 1, hj => simp at hj; subst hj; simpa [Addr.add] using h1
theorem cells3 {w : World} {b : Nat} {u0 u1 u2 : Value} (h : w.cell? ⟨b, 0, none⟩ = some u0) (h1 : w.cell? ⟨b, 1, none⟩ = some u1) (h2 : w.cell? ⟨b, 2, none⟩ = some u2) : ∀ j u, [u0, u1, u2][j]? = some u -> w.cell? ((⟨b, 0, none⟩ : Addr).add j) = some u := by
 intro j u hj
 match j, hj with
 | 0, hj => simp at hj; subst hj; simpa [Addr.add] using h
 | 1, hj => simp at hj; subst hj; simpa [Addr.add] using h1
 | 2, hj => simp at hj; subst hj; simpa [Addr.add] using h2
end Go.Proofs.YtgikimbafakmcaaGreatDoor
namespace Go.Proofs.YtgikimbafakmcaaGreatDoor
open Go.RowKit Pl
def encI (x : Int) : List Value := [.int .i64 x]
def encB (x : Bool) : List Value := [.bool x]
def encS (x : S) : List Value := [.int .i64 x.1, .int .i64 x.2]
def encE (x : E) : List Value := [.int .i64 x.1, .int .i64 x.2.1, .int .i64 x.2.2]
def encV (x : Value) : List Value := [x]
theorem rowI : IsRow Tryz.prog 58 3 1 8 (.int .i64 0) := isRow_of Tryz.underlying58 (by kernel_rfl) rfl (by decide)
theorem rowS : IsRow Tryz.prog 113 129 2 16 (.agg #[.int .i64 0, .int .i64 0]) := isRow_of Tryz.underlying113 (by kernel_rfl) rfl (by decide)
theorem rowE : IsRow Tryz.prog 22 57 3 24 (.agg #[.int .i64 0, .int .i64 0, .int .i64 0]) := isRow_of Tryz.underlying22 (by kernel_rfl) rfl (by decide)
theorem rowB : IsRow Tryz.prog 111 4 1 1 (.bool false) := isRow_of Tryz.underlying111 (by kernel_rfl) rfl (by decide)
section
variable {α : Type} {enc : α -> List Value} {k : Nat} {w w' : World} {a : Option Addr} {b off : Nat} {xs : List α}
structure SlAt (enc : α -> List Value) (k : Nat) (w : World) (a : Option Addr) (b off : Nat) (xs : List α) : Prop where
  ad : 0 < xs.length -> a = some ⟨b, off, none⟩
  lt : 0 < xs.length -> b < w.heap.size
  cell : ∀ i x, xs[i]? = some x -> ∀ j u, (enc x)[j]? = some u -> w.cell? ⟨b, off + i * k + j, none⟩ = some u
theorem SlAt.below {B : Nat} (h : SlAt enc k w a b off xs) (hB : Below B w w') (hle : w.heap.size <= B) : SlAt enc k w' a b off xs :=
  ⟨h.ad, fun hl => Nat.lt_of_lt_of_le (h.lt hl) hB.size, fun i x hx j u hu => by
    have hl : 0 < xs.length := by have := (List.getElem?_eq_some_iff.1 hx).1; omega
    rw [hB.cell (p := ⟨b, off + i * k + j, none⟩) (Nat.lt_of_lt_of_le (h.lt hl) hle)]
    exact h.cell i x hx j u hu⟩
theorem slAt_nil (w : World) (a : Option Addr) (b off : Nat) : SlAt enc k w a b off [] := ⟨by simp, by simp, by simp⟩
theorem getElem?_flatMap (hk : ∀ x, (enc x).length = k) : ∀ (xs : List α) (i : Nat) (x : α), xs[i]? = some x -> ∀ j u, (enc x)[j]? = some u -> (xs.flatMap enc)[i * k + j]? = some u
  | [], i, x, h, _, _, _ => by simp at h
  | y :: xs, 0, x, h, j, u, hu => by
    simp at h; subst h
    rw [List.flatMap_cons, Nat.zero_mul, Nat.zero_add, List.getElem?_append_left (List.getElem?_eq_some_iff.1 hu).1]
    exact hu
  | y :: xs, i + 1, x, h, j, u, hu => by
    rw [List.flatMap_cons, List.getElem?_append_right (by rw [hk, Nat.add_mul]; omega), hk]
    rw [show (i + 1) * k + j - k = i * k + j by rw [Nat.add_mul]; omega]
    exact getElem?_flatMap hk xs i x (by simpa using h) j u hu
theorem length_flatMap (hk : ∀ x, (enc x).length = k) : ∀ xs : List α, (xs.flatMap enc).length = xs.length * k
  | [] => by simp
  | y :: xs => by rw [List.flatMap_cons, List.length_append, hk, length_flatMap hk xs, List.length_cons, Nat.add_mul]; omega
theorem slAt_own {base : Nat} {e : TypeId} {v : Value} (hk : ∀ x, (enc x).length = k) (h : w.ownsRow base e k v xs.length (xs.flatMap enc)) :
    ∃ a c b, v = .slice a xs.length c /\ xs.length <= c /\ c <= maxLen /\ SlAt enc k w a b 0 xs /\ (0 < xs.length -> base <= b) := by
 rcases h.2 with ⟨rfl, hn⟩ | ⟨g, cap, cur, rfl, hbg, hg, hnc, hcm, hcs, htake⟩
 · have : xs = [] := List.eq_nil_of_length_eq_zero hn
   subst this
   exact ⟨none, 0, 0, rfl, Nat.le_refl _, by unfold maxLen; omega, slAt_nil _ _ _ _, by simp⟩
 · (
 refine ⟨some ⟨g, 0, none⟩, cap, g, rfl, hnc, hcm, ⟨fun _ => rfl, fun _ => (Array.getElem?_eq_some_iff.1 hg).1, fun i x hx j u hu => ?_⟩, fun _ => hbg⟩
 rw [cell_of_row w g _ cur e (0, 0) hg]
 have h1 := getElem?_flatMap hk xs i x hx j u hu
 rw [<- htake, List.getElem?_take] at h1
 split at h1
 · simpa using h1
 · cases h1)
end
theorem lenI (x : Int) : (encI x).length = 1 := rfl
theorem lenB (x : Bool) : (encB x).length = 1 := rfl
theorem lenS (x : S) : (encS x).length = 2 := rfl
theorem lenE (x : E) : (encE x).length = 3 := rfl
theorem lenV (x : Value) : (encV x).length = 1 := rfl
section
variable {w : World} {a : Option Addr} {b off i : Nat}
theorem SlAt.ci {xs : List Int} {x : Int} (h : SlAt encI 1 w a b off xs) (hx : xs[i]? = some x) : w.cell? ⟨b, off + i, none⟩ = some (.int .i64 x) := by
 simpa using h.cell i x hx 0 _ rfl
theorem SlAt.cb {xs : List Bool} {x : Bool} (h : SlAt encB 1 w a b off xs) (hx : xs[i]? = some x) : w.cell? ⟨b, off + i, none⟩ = some (.bool x) := by
 simpa using h.cell i x hx 0 _ rfl
theorem SlAt.cv {xs : List Value} {x : Value} (h : SlAt encV 1 w a b off xs) (hx : xs[i]? = some x) : w.cell? ⟨b, off + i, none⟩ = some x := by
 simpa using h.cell i x hx 0 _ rfl
theorem SlAt.s0 {xs : List S} {x : S} (h : SlAt encS 2 w a b off xs) (hx : xs[i]? = some x) : w.cell? ⟨b, off + i * 2, none⟩ = some (.int .i64 x.1) := by
 simpa using h.cell i x hx 0 _ rfl
theorem SlAt.s1 {xs : List S} {x : S} (h : SlAt encS 2 w a b off xs) (hx : xs[i]? = some x) : w.cell? ⟨b, off + i * 2 + 1, none⟩ = some (.int .i64 x.2) :=
  h.cell i x hx 1 _ rfl
theorem SlAt.e0 {xs : List E} {x : E} (h : SlAt encE 3 w a b off xs) (hx : xs[i]? = some x) : w.cell? ⟨b, off + i * 3, none⟩ = some (.int .i64 x.1) := by
 simpa using h.cell i x hx 0 _ rfl
theorem SlAt.e1 {xs : List E} {x : E} (h : SlAt encE 3 w a b off xs) (hx : xs[i]? = some x) : w.cell? ⟨b, off + i * 3 + 1, none⟩ = some (.int .i64 x.2.1) :=
  h.cell i x hx 1 _ rfl
theorem SlAt.e2 {xs : List E} {x : E} (h : SlAt encE 3 w a b off xs) (hx : xs[i]? = some x) : w.cell? ⟨b, off + i * 3 + 2, none⟩ = some (.int .i64 x.2.2) :=
  h.cell i x hx 2 _ rfl
end
theorem getElem?_of_lt {α : Type} {xs : List α} {i : Nat} (h : i < xs.length) : ∃ x, xs[i]? = some x := ⟨xs[i], List.getElem?_eq_getElem h⟩
theorem ret_i {a b : Int} (h : a = b) : Ending.returned (.int .i64 a) = .returned (.int .i64 b) := by rw [h]
theorem ret_b {a b : Bool} (h : a = b) : Ending.returned (.bool a) = .returned (.bool b) := by rw [h]
theorem take_snoc {α : Type} {xs : List α} {i : Nat} {x : α} (h : xs[i]? = some x) : xs.take (i + 1) = xs.take i ++ [x] := by
 obtain ⟨hl, rfl⟩ := List.getElem?_eq_some_iff.1 h
 exact List.take_succ_eq_append_getElem hl
end Go.Proofs.YtgikimbafakmcaaGreatDoor
