/-
  Lemmas.
-/
import Derived.Test.YtbaccmlfnbgehaaGreatDoorGPlB
import Derived.Test.YtbaccmlfnbgehaaGreatDoorGPl1
import Derived.Test.YtbaccmlfnbgehaaGreatDoorChecked
import Derived.WalkKit
import Derived.WalkSpells
import Derived.WalkLawsBesides
import Derived.Lib.Hide
import Derived.Deep.OwnRows
import Derived.Deep.AppendLies
import Derived.Outline
set_option maxHeartbeats 1000000
set_option maxRecDepth 100000
open List renaming getElem?_eq_some_iff → l0, take_succ_eq_append_getElem → l2, getElem?_eq_getElem → l4, flatMap_cons → l5, pairwise_append → l6, mem_append → l7, take_length → l8
open Nat renaming lt_of_lt_of_le → l1, le_refl → l3, add_mul → l9
namespace Go.Proofs.YtbaccmlfnbgehaaGreatDoor
namespace Pl
end Pl
end Go.Proofs.YtbaccmlfnbgehaaGreatDoor
namespace Go.Proofs.YtbaccmlfnbgehaaGreatDoor
namespace Pl
def pushL (out : List E) (e : E) : List E := if out.getLast? = some e then out else out ++ [e]
structure Mrg (a b out : List E) (i k : Nat) : Prop where
  srt : Srt ltE out
  mem : ∀ x, x ∈ out ↔ x ∈ a.take i ∨ x ∈ b.take k
  la : ∀ o ∈ out, ∀ x ∈ a.drop i, ltE x o = false
  lb : ∀ o ∈ out, ∀ x ∈ b.drop k, ltE x o = false
theorem Mrg.nil (a b : List E) : Mrg a b [] 0 0 := ⟨by simp [Srt], by simp, by simp, by simp⟩
theorem p2d {out : List E} {e : E} (h : Srt ltE out) (he : ∀ o ∈ out, ltE e o = false) : Srt ltE (pushL out e) /\ ∀ x, x ∈ pushL out e ↔ x ∈ out ∨ x = e := by
 unfold pushL
 by_cases hl : out.getLast? = some e
 · rw [if_pos hl]
   have hm : e ∈ out := List.mem_of_getLast? hl
   exact ⟨h, fun x => ⟨.inl, fun hx => by rcases hx with hx | rfl; exact hx; exact hm⟩⟩
 · rw [if_neg hl]
   refine ⟨?_, fun x => by simp⟩
   unfold Srt at *
   rw [l6]
   refine ⟨h, by simp, fun o ho x hx => ?_⟩
   simp at hx; subst hx
   -- o is the last, or ahead of the last
   obtain ⟨l, z, rfl⟩ : ∃ l z, out = l ++ [z] := by
     rcases List.eq_nil_or_concat out with rfl | ⟨l, z, hz⟩
     · simp at ho
     · exact ⟨l, z, by simpa using hz⟩
   have hz : z ≠ x := by rintro rfl; simp at hl
   have hzx : ltE z x = true := by
     rcases y0k.total z x with h1 | h1 | h1
     · exact h1
     · exact absurd h1 hz
     · rw [he z (by simp)] at h1; cases h1
   rcases l7.1 ho with h1 | h1
   · have := (l6.1 h).2.2 o h1 z (by simp)
     exact y0k.trans _ _ _ this hzx
   · simp at h1; subst h1; exact hzx
theorem p3m {a b : E} (h : ltE a b = true) : ltE b a = false := by
 rw [Bool.eq_false_iff]; intro h2
 have := y0k.trans _ _ _ h h2
 rw [y0k.irrefl] at this; cases this
theorem notBelow {b : List E} {k : Nat} {x e : E} (h : Srt ltE b) (hk : b[k]? = some x) (hx : ltE x e = false) : ∀ y ∈ b.drop k, ltE y e = false := by
 intro y hy
 obtain ⟨j, hj⟩ := List.getElem?_of_mem hy
 rw [List.getElem?_drop] at hj
 by_cases h0 : j = 0
 · subst h0; rw [Nat.add_zero, hk] at hj; cases hj; exact hx
 · (
 obtain ⟨h1, e1⟩ := l0.1 hk
 obtain ⟨h2, e2⟩ := l0.1 hj
 have := List.pairwise_iff_getElem.1 h k (k + j) h1 h2 (by omega)
 rw [e1, e2] at this
 rw [Bool.eq_false_iff]; intro h3
 rw [y0k.trans _ _ _ this h3] at hx; cases hx)
theorem Mrg.pushA {a b out : List E} {i k : Nat} {e : E} (h : Mrg a b out i k) (ha : Srt ltE a) (hi : a[i]? = some e) (hb : ∀ y ∈ b.drop k, ltE y e = false) : Mrg a b (pushL out e) (i + 1) k := by
 obtain ⟨hil, hie⟩ := l0.1 hi
 have hd : a.drop i = e :: a.drop (i + 1) := by rw [List.drop_eq_getElem_cons hil, hie]
 have hlo : ∀ o ∈ out, ltE e o = false := fun o ho => h.la o ho e (by rw [hd]; simp)
 obtain ⟨h1, h2⟩ := p2d h.srt hlo
 refine ⟨h1, fun x => ?_, fun o ho x hx => ?_, fun o ho x hx => ?_⟩
 · (
 rw [h2, h.mem, l2 hil, hie, l7, List.mem_singleton]
 constructor
 · rintro ((h | h) | h)
   · exact .inl (.inl h)
   · exact .inr h
   · exact .inl (.inr h)
 · rintro ((h | h) | h)
   · exact .inl (.inl h)
   · exact .inr h
   · exact .inl (.inr h))
 · rcases (h2 o).1 ho with h3 | rfl
   · exact h.la o h3 x (by rw [hd]; simp [hx])
   · have hs : Srt ltE (a.drop i) := List.Pairwise.drop ha
     rw [hd] at hs
     exact p3m ((List.pairwise_cons.1 hs).1 x hx)
 · rcases (h2 o).1 ho with h3 | rfl
   · exact h.lb o h3 x hx
   · exact hb x hx
theorem Mrg.swap {a b out : List E} {i k : Nat} (h : Mrg a b out i k) : Mrg b a out k i := ⟨h.srt, fun x => by rw [h.mem]; exact Or.comm, h.lb, h.la⟩
theorem Mrg.pushB {a b out : List E} {i k : Nat} {e : E} (h : Mrg a b out i k) (hb : Srt ltE b) (hi : b[k]? = some e) (ha : ∀ y ∈ a.drop i, ltE y e = false) : Mrg a b (pushL out e) i (k + 1) :=
  (h.swap.pushA hb hi ha).swap
theorem Mrg.done {a b out l : List E} (h : Mrg a b out a.length b.length) (hm : ∀ x, x ∈ l ↔ x ∈ a ∨ x ∈ b) : out = nf ltE l :=
  v2j y0k h.srt (fun x => by rw [h.mem, l8, l8, hm])
theorem Mrg.len {out : List E} {e : E} : (pushL out e).length <= out.length + 1 := by
 unfold pushL; split <;> simp
theorem z2w (l : List E) (m : Nat) (x : E) : x ∈ l ↔ x ∈ nf ltE (l.take m) ∨ x ∈ nf ltE (l.drop m) := by
 rw [p0j y0k, p0j y0k, <- l7, List.take_append_drop]
theorem z2j {l : List E} (h : l.length < 2) : nf ltE l = l := by
 match l, h with
 | [], _ => rfl
 | [x], _ => rfl
 | _ :: _ :: _, h => simp at h; omega
end Pl
end Go.Proofs.YtbaccmlfnbgehaaGreatDoor
namespace Go.Proofs.YtbaccmlfnbgehaaGreatDoor
namespace Pl
def tauOf (s : Lts) (q : Int) : Lts := ⟨s.st, s.lb, q, s.es.filter (fun x => x.2.1 == 0)⟩
theorem z0q {s : Lts} (h : s.Right) {q : Int} (h0 : 0 <= q) (h1 : q < s.st) : (tauOf s q).Right := by
 have hr := h.st0
 refine ⟨?_, fun x hx => h.edges x (List.mem_filter.1 hx).1⟩
 unfold HeadBad tauOf
 have := List.length_filter_le (fun x : E => x.2.1 == 0) s.es
 simp only
 omega
theorem v0e {s : Lts} {q x : Int} {y : S} : y ∈ (tauOf s q).outs x ↔ y ∈ s.outs x /\ y.1 = 0 := by
 rw [j0s, j0s]
 unfold tauOf
 simp
end Pl
end Go.Proofs.YtbaccmlfnbgehaaGreatDoor
namespace Go.Proofs.YtbaccmlfnbgehaaGreatDoor
open Go.RowKit
structure IsRow (P : Program) (t e : TypeId) (size bytes : Nat) (z : Value) : Prop where
  ht : P.underlying t = some (.slice e)
  info : ∃ i, P.info? e = some i /\ i.zero = some z /\ i.size = size /\ i.bytes = bytes
  zs : z.cells.size = size
  pos : 0 < size
theorem k0h {P : Program} {t e : TypeId} {size bytes : Nat} {z : Value} (ht : P.underlying t = some (.slice e))
    (h : (P.info? e).map (fun i => (i.zero, i.size, i.bytes)) = some (some z, size, bytes)) (zs : z.cells.size = size) (pos : 0 < size) : IsRow P t e size bytes z :=
  ⟨ht, by obtain ⟨i, a, b, c, d⟩ := info_parts h; exact ⟨i, a, b, c, d⟩, zs, pos⟩
theorem p0e {P : Program} {w : World} {ops : Array Oper} {rest : List Oper} {o : Oper} {a : Act} {Q : Exit -> Act -> World -> Prop} (hgd : o.guard = none) (s x : Operand) (t : TypeId)
    (ho : o.op = .call { callee := .builtin .append, args := #[s, x], argTypes := #[t, t] })
    {e : TypeId} {size bytes : Nat} {z : Value} (R : IsRow P t e size bytes z) {base : Nat} {w0 : World} (hB : Below base w0 w) (hb0 : base <= w.heap.size)
    {v : Value} {n : Nat} {xs : List Value} (hs : a.eval s = v) (hown : w.ownsRow base e size v n xs)
    (ad : Addr) (m c : Nat) (news : List Value) (hx : a.eval x = .slice (some ad) m c) (hl : news.length = m * size) (hnews : ∀ j u, news[j]? = some u -> w.cell? (ad.add j) = some u) (h1 : ∀ u ∈ news, u.oneCell' = true)
    (hbytes : (n + m) * bytes <= 140737488355328) (hmax : n + m <= maxLen)
    (h : ∀ v' w', w'.ownsRow base e size v' (n + m) (xs ++ news) -> Below base w0 w' -> w.grownBy w' v.ownBlock -> wpList P ops Q rest (a.put o.dst v') w') : wpList P ops Q (o :: rest) a w := by
 obtain ⟨i, hi, hz, hsz, hby⟩ := R.info
 refine wpList_append_own w hgd s x t ho base e i z size bytes R.ht hi hz hsz hby R.zs R.pos v n xs hs hown ad m c news hx hl hnews h1 hmax hbytes hb0 ?_
 intro v' w' h1 h2 _
 exact h v' w' h1 (hB.grown h2 hb0 (fun k hk => (hown.lt k hk).1)) h2
theorem z1u {P : Program} {w : World} {ops : Array Oper} {o : Oper} {a : Act} {K : Act -> World -> Prop} {Q : Exit -> Act -> World -> Prop} {E : Prop} (hgd : o.guard = none) (s x : Operand) (t : TypeId)
    (ho : o.op = .call { callee := .builtin .append, args := #[s, x], argTypes := #[t, t] })
    {e : TypeId} {size bytes : Nat} {z : Value} (R : IsRow P t e size bytes z) {base : Nat}
    {v : Value} {n : Nat} {xs : List Value} (hs : a.eval s = v) (hown : w.ownsRow base e size v n xs)
    (ad : Addr) (m c : Nat) (news : List Value) (hx : a.eval x = .slice (some ad) m c) (hl : news.length = m * size) (hnews : ∀ j u, news[j]? = some u -> w.cell? (ad.add j) = some u) (h1 : ∀ u ∈ news, u.oneCell' = true)
    (hbytes : (n + m) * bytes <= 140737488355328) (hmax : n + m <= maxLen) (hbase : base <= w.heap.size)
    (h : ∀ v' w', w'.ownsRow base e size v' (n + m) (xs ++ news) -> w.grownBy w' v.ownBlock -> K (a.put o.dst v') w') :
    if Region.wanted o (yielded ops a.tmps) = true then Oper.wp P o a w K Q else E := by
 have hw : Region.wanted o (yielded ops a.tmps) = true := by simp [Region.wanted, hgd]
 rw [if_pos hw]
 obtain ⟨i, hi, hz, hsz, hby⟩ := R.info
 exact wp_append_own w s x t ho base e i z size bytes R.ht hi hz hsz hby R.zs R.pos v n xs hs hown ad m c news hx hl hnews h1 hmax hbytes hbase (fun v' w' h1 h2 _ => h v' w' h1 h2)
theorem p1q {P : Program} {w : World} {ops : Array Oper} {o : Oper} {a : Act} {K : Act -> World -> Prop} {Q : Exit -> Act -> World -> Prop} {E : Prop} (hgd : o.guard = none) (s x : Operand) (t : TypeId)
    (ho : o.op = .call { callee := .builtin .append, args := #[s, x], argTypes := #[t, t] })
    {e : TypeId} {size bytes : Nat} {z : Value} (R : IsRow P t e size bytes z) {base : Nat}
    {v : Value} {n : Nat} {xs : List Value} (hs : a.eval s = v) (hown : w.ownsRow base e size v n xs)
    (ad : Addr) (m c : Nat) (news : List Value) (hx : a.eval x = .slice (some ad) m c) (hl : news.length = m * size) (hnews : ∀ j u, news[j]? = some u -> w.cell? (ad.add j) = some u) (h1 : ∀ u ∈ news, u.oneCell' = true) (hm : 0 < m)
    (hbytes : (n + m) * bytes <= 140737488355328) (hmax : n + m <= maxLen) (hbase : base <= w.heap.size)
    (h : ∀ g cap w', w'.ownsRow base e size (.slice (some ⟨g, 0, none⟩) (n + m) cap) (n + m) (xs ++ news) -> w.grownBy w' v.ownBlock -> K (a.put o.dst (.slice (some ⟨g, 0, none⟩) (n + m) cap)) w') :
    if Region.wanted o (yielded ops a.tmps) = true then Oper.wp P o a w K Q else E := by
 refine z1u hgd s x t ho R hs hown ad m c news hx hl hnews h1 hbytes hmax hbase (fun v' w' h2 h3 => ?_)
 obtain ⟨g, cap, rfl, _⟩ := h2.form (by omega)
 exact h g cap w' h2 h3
theorem k0i {P : Program} {w : World} {ops : Array Oper} {rest : List Oper} {o : Oper} {a : Act} {Q : Exit -> Act -> World -> Prop} (hgd : o.guard = none) (s x : Operand) (t : TypeId)
    (ho : o.op = .call { callee := .builtin .append, args := #[s, x], argTypes := #[t, t] })
    {e : TypeId} {size bytes : Nat} {z : Value} (R : IsRow P t e size bytes z) {base : Nat} {w0 : World} (hB : Below base w0 w) (hb0 : base <= w.heap.size)
    {v : Value} {n : Nat} {xs : List Value} (hs : a.eval s = v) (hown : w.ownsRow base e size v n xs)
    (ad : Addr) (m c : Nat) (news : List Value) (hx : a.eval x = .slice (some ad) m c) (hl : news.length = m * size) (hnews : ∀ j u, news[j]? = some u -> w.cell? (ad.add j) = some u) (h1 : ∀ u ∈ news, u.oneCell' = true) (hm : 0 < m)
    (hbytes : (n + m) * bytes <= 140737488355328) (hmax : n + m <= maxLen)
    (h : ∀ g cap w', w'.ownsRow base e size (.slice (some ⟨g, 0, none⟩) (n + m) cap) (n + m) (xs ++ news) -> Below base w0 w' -> w.grownBy w' v.ownBlock -> wpList P ops Q rest (a.put o.dst (.slice (some ⟨g, 0, none⟩) (n + m) cap)) w') : wpList P ops Q (o :: rest) a w := by
 refine p0e hgd s x t ho R hB hb0 hs hown ad m c news hx hl hnews h1 hbytes hmax (fun v' w' h2 h3 h4 => ?_)
 obtain ⟨g, cap, rfl, _⟩ := h2.form (by omega)
 exact h g cap w' h2 h3 h4
theorem k0c {w : World} {b : Nat} {u0 : Value} (h : w.cell? ⟨b, 0, none⟩ = some u0) : ∀ j u, [u0][j]? = some u -> w.cell? ((⟨b, 0, none⟩ : Addr).add j) = some u := by
 intro j u hj
 match j, hj with
 | 0, hj => simp at hj; subst hj; simpa [Addr.add] using h
theorem cells2 {w : World} {b : Nat} {u0 u1 : Value} (h : w.cell? ⟨b, 0, none⟩ = some u0) (h1 : w.cell? ⟨b, 1, none⟩ = some u1) : ∀ j u, [u0, u1][j]? = some u -> w.cell? ((⟨b, 0, none⟩ : Addr).add j) = some u := by
 intro j u hj
 match j, hj with
 | 0, hj => simp at hj; subst hj; simpa [Addr.add] using h
 | 1, hj => simp at hj; subst hj; simpa [Addr.add] using h1
theorem cells3 {w : World} {b : Nat} {u0 u1 u2 : Value} (h : w.cell? ⟨b, 0, none⟩ = some u0) (h1 : w.cell? ⟨b, 1, none⟩ = some u1) (h2 : w.cell? ⟨b, 2, none⟩ = some u2) : ∀ j u, [u0, u1, u2][j]? = some u -> w.cell? ((⟨b, 0, none⟩ : Addr).add j) = some u := by
 intro j u hj
 match j, hj with
 | 0, hj => simp at hj; subst hj; simpa [Addr.add] using h
 | 1, hj => simp at hj; subst hj; simpa [Addr.add] using h1
 | 2, hj => simp at hj; subst hj; simpa [Addr.add] using h2
end Go.Proofs.YtbaccmlfnbgehaaGreatDoor
namespace Go.Proofs.YtbaccmlfnbgehaaGreatDoor
open Go.RowKit Pl
def encI (x : Int) : List Value := [.int .i64 x]
def encB (x : Bool) : List Value := [.bool x]
def encS (x : S) : List Value := [.int .i64 x.1, .int .i64 x.2]
def encE (x : E) : List Value := [.int .i64 x.1, .int .i64 x.2.1, .int .i64 x.2.2]
def encV (x : Value) : List Value := [x]
theorem p2q : IsRow Tryz.prog 50 3 1 8 (.int .i64 0) := k0h Tryz.underlying50 (by kernel_rfl) rfl (by decide)
theorem u2h : IsRow Tryz.prog 113 115 2 16 (.agg #[.int .i64 0, .int .i64 0]) := k0h Tryz.underlying113 (by kernel_rfl) rfl (by decide)
theorem x1s : IsRow Tryz.prog 22 71 3 24 (.agg #[.int .i64 0, .int .i64 0, .int .i64 0]) := k0h Tryz.underlying22 (by kernel_rfl) rfl (by decide)
theorem rowB : IsRow Tryz.prog 57 4 1 1 (.bool false) := k0h Tryz.underlying57 (by kernel_rfl) rfl (by decide)
section
variable {α : Type} {enc : α -> List Value} {k : Nat} {w w' : World} {a : Option Addr} {b off : Nat} {xs : List α}
structure SlAt (enc : α -> List Value) (k : Nat) (w : World) (a : Option Addr) (b off : Nat) (xs : List α) : Prop where
  ad : 0 < xs.length -> a = some ⟨b, off, none⟩
  lt : 0 < xs.length -> b < w.heap.size
  cell : ∀ i x, xs[i]? = some x -> ∀ j u, (enc x)[j]? = some u -> w.cell? ⟨b, off + i * k + j, none⟩ = some u
theorem SlAt.below {B : Nat} (h : SlAt enc k w a b off xs) (hB : Below B w w') (hle : w.heap.size <= B) : SlAt enc k w' a b off xs :=
  ⟨h.ad, fun hl => l1 (h.lt hl) hB.size, fun i x hx j u hu => by
    have hl : 0 < xs.length := by have := (l0.1 hx).1; omega
    rw [hB.cell (p := ⟨b, off + i * k + j, none⟩) (l1 (h.lt hl) hle)]
    exact h.cell i x hx j u hu⟩
theorem SlAt.below' {B : Nat} (h : SlAt enc k w a b off xs) (hB : Below B w w') (hle : 0 < xs.length -> b < B) : SlAt enc k w' a b off xs :=
  ⟨h.ad, fun hl => l1 (h.lt hl) hB.size, fun i x hx j u hu => by
    have hl : 0 < xs.length := by have := (l0.1 hx).1; omega
    rw [hB.cell (p := ⟨b, off + i * k + j, none⟩) (hle hl)]
    exact h.cell i x hx j u hu⟩
theorem p0l (w : World) (a : Option Addr) (b off : Nat) : SlAt enc k w a b off [] := ⟨by simp, by simp, by simp⟩
theorem j0h (hk : ∀ x, (enc x).length = k) : ∀ (xs : List α) (i : Nat) (x : α), xs[i]? = some x -> ∀ j u, (enc x)[j]? = some u -> (xs.flatMap enc)[i * k + j]? = some u
  | [], i, x, h, _, _, _ => by simp at h
  | y :: xs, 0, x, h, j, u, hu => by
    simp at h; subst h
    rw [l5, Nat.zero_mul, Nat.zero_add, List.getElem?_append_left (l0.1 hu).1]
    exact hu
  | y :: xs, i + 1, x, h, j, u, hu => by
    rw [l5, List.getElem?_append_right (by rw [hk, l9]; omega), hk]
    rw [show (i + 1) * k + j - k = i * k + j by rw [l9]; omega]
    exact j0h hk xs i x (by simpa using h) j u hu
theorem j0b (hk : ∀ x, (enc x).length = k) : ∀ xs : List α, (xs.flatMap enc).length = xs.length * k
  | [] => by simp
  | y :: xs => by rw [l5, List.length_append, hk, j0b hk xs, List.length_cons, l9]; omega
theorem j0d {base : Nat} {e : TypeId} {v : Value} (hk : ∀ x, (enc x).length = k) (h : w.ownsRow base e k v xs.length (xs.flatMap enc)) :
    ∃ a c b, v = .slice a xs.length c /\ xs.length <= c /\ c <= maxLen /\ SlAt enc k w a b 0 xs /\ (0 < xs.length -> base <= b) := by
 rcases h.2 with ⟨rfl, hn⟩ | ⟨g, cap, cur, rfl, hbg, hg, hnc, hcm, hcs, htake⟩
 · have : xs = [] := List.eq_nil_of_length_eq_zero hn
   subst this
   exact ⟨none, 0, 0, rfl, l3 _, by unfold maxLen; omega, p0l _ _ _ _, by simp⟩
 · (
 refine ⟨some ⟨g, 0, none⟩, cap, g, rfl, hnc, hcm, ⟨fun _ => rfl, fun _ => (Array.getElem?_eq_some_iff.1 hg).1, fun i x hx j u hu => ?_⟩, fun _ => hbg⟩
 rw [cell_of_row w g _ cur e (0, 0) hg]
 have h1 := j0h hk xs i x hx j u hu
 rw [<- htake, List.getElem?_take] at h1
 split at h1
 · simpa using h1
 · cases h1)
end
theorem p0v (x : Int) : (encI x).length = 1 := rfl
theorem q2o (x : Bool) : (encB x).length = 1 := rfl
theorem k1p (x : S) : (encS x).length = 2 := rfl
theorem k0q (x : E) : (encE x).length = 3 := rfl
theorem lenV (x : Value) : (encV x).length = 1 := rfl
section
variable {w : World} {a : Option Addr} {b off i : Nat}
theorem SlAt.ci {xs : List Int} {x : Int} (h : SlAt encI 1 w a b off xs) (hx : xs[i]? = some x) : w.cell? ⟨b, off + i, none⟩ = some (.int .i64 x) := by
 simpa using h.cell i x hx 0 _ rfl
theorem SlAt.cb {xs : List Bool} {x : Bool} (h : SlAt encB 1 w a b off xs) (hx : xs[i]? = some x) : w.cell? ⟨b, off + i, none⟩ = some (.bool x) := by
 simpa using h.cell i x hx 0 _ rfl
theorem SlAt.cv {xs : List Value} {x : Value} (h : SlAt encV 1 w a b off xs) (hx : xs[i]? = some x) : w.cell? ⟨b, off + i, none⟩ = some x := by
 simpa using h.cell i x hx 0 _ rfl
theorem SlAt.s0 {xs : List S} {x : S} (h : SlAt encS 2 w a b off xs) (hx : xs[i]? = some x) : w.cell? ⟨b, off + i * 2, none⟩ = some (.int .i64 x.1) := by
 simpa using h.cell i x hx 0 _ rfl
theorem SlAt.s1 {xs : List S} {x : S} (h : SlAt encS 2 w a b off xs) (hx : xs[i]? = some x) : w.cell? ⟨b, off + i * 2 + 1, none⟩ = some (.int .i64 x.2) :=
  h.cell i x hx 1 _ rfl
theorem SlAt.e0 {xs : List E} {x : E} (h : SlAt encE 3 w a b off xs) (hx : xs[i]? = some x) : w.cell? ⟨b, off + i * 3, none⟩ = some (.int .i64 x.1) := by
 simpa using h.cell i x hx 0 _ rfl
theorem SlAt.e1 {xs : List E} {x : E} (h : SlAt encE 3 w a b off xs) (hx : xs[i]? = some x) : w.cell? ⟨b, off + i * 3 + 1, none⟩ = some (.int .i64 x.2.1) :=
  h.cell i x hx 1 _ rfl
theorem SlAt.e2 {xs : List E} {x : E} (h : SlAt encE 3 w a b off xs) (hx : xs[i]? = some x) : w.cell? ⟨b, off + i * 3 + 2, none⟩ = some (.int .i64 x.2.2) :=
  h.cell i x hx 2 _ rfl
end
theorem j0a {α : Type} {xs : List α} {i : Nat} (h : i < xs.length) : ∃ x, xs[i]? = some x := ⟨xs[i], l4 h⟩
theorem k3m {a b : Int} (h : a = b) : Ending.returned (.int .i64 a) = .returned (.int .i64 b) := by rw [h]
theorem y2s {a b : Bool} (h : a = b) : Ending.returned (.bool a) = .returned (.bool b) := by rw [h]
theorem take_snoc {α : Type} {xs : List α} {i : Nat} {x : α} (h : xs[i]? = some x) : xs.take (i + 1) = xs.take i ++ [x] := by
 obtain ⟨hl, rfl⟩ := l0.1 h
 exact l2 hl
end Go.Proofs.YtbaccmlfnbgehaaGreatDoor
namespace Go.Proofs.YtbaccmlfnbgehaaGreatDoor
open Go.RowKit Pl
theorem p0n (s : ByteArray) (t : TypeId) (v : Value) (w : World) : Calls Tryz.prog 43 #[.string s, .iface t v] w fun e w' =>
    e = .returned (.iface 85 (.pointer (some ⟨w.heap.size, 0, none⟩))) /\ w' = w.alloc (.cells #[.string s, .int .i64 0, .int .i64 0, .iface t v] 88) := by
 go_enter Tryz.func43, Tryz.ntmps43
 go_wp2
 go_ret
 exact ⟨rfl, rfl⟩
structure GErr (g : Nat) (p : Addr) (w : World) : Prop where
  lt : g < w.heap.size
  cell : w.cell? ⟨g, 0, none⟩ = some (.iface 278 (.pointer (some p)))
theorem GErr.below {g : Nat} {p : Addr} {w w' : World} (h : GErr g p w) (hB : Below w.heap.size w w') : GErr g p w' :=
  ⟨l1 h.lt hB.size, by rw [hB.cell (p := ⟨g, 0, none⟩) h.lt]; exact h.cell⟩
structure FaultAt (w : World) (v : Value) (layer : ByteArray) (inner : Value) : Prop where
  ex : ∃ b, v = .iface 85 (.pointer (some ⟨b, 0, none⟩)) /\ w.heap[b]? = some (.cells #[.string layer, .int .i64 0, .int .i64 0, inner] 88 (0, 0))
theorem v0c (st lb s0 : Int) (es : Value) (x : E) (w : World) :
    Calls Tryz.prog 178 #[.agg #[.int .i64 st, .int .i64 lb, .int .i64 s0, es], .agg #[.int .i64 x.1, .int .i64 x.2.1, .int .i64 x.2.2]] w fun e w' =>
      e = .returned (.bool (offB st lb x)) /\ Below w.heap.size w w' := by
 unfold offB
 go_enter Tryz.func178, Tryz.ntmps178
 go_wp2
 all_goals (go_ret; exact ⟨by simp [*]; try omega, ((Below.refl _ _).alloc (l3 _) _).alloc (by simp) _⟩)
theorem k2a {p : Addr} (st lb s0 : Int) (a : Option Addr) (n c : Nat) (w : World) (hG : GErr 15 p w) (h : HeadBad st lb s0 n) :
    Calls Tryz.prog 164 #[.agg #[.int .i64 st, .int .i64 lb, .int .i64 s0, .slice a n c]] w fun e w' => ∃ v, e = .returned v /\ FaultAt w' v ⟨#[115, 121, 115, 116, 101, 109]⟩ (.iface 278 (.pointer (some p))) /\ Below w.heap.size w w' := by
 unfold HeadBad at h
 have hg := hG.cell
 have hlt := hG.lt
 go_enter Tryz.func164, Tryz.ntmps164
 go_wp2_with (go_at_call 43; refine (p0n _ _ _ _).mono ?_; rintro e w1 ⟨rfl, rfl⟩)
 all_goals (go_ret; exact ⟨_, rfl, ⟨w.heap.size + 1, rfl, by simpa using heap_alloc_new (w.alloc (.cells #[.int .i64 st, .int .i64 lb, .int .i64 s0, .slice a n c] 24)) (.cells #[.string ⟨#[115, 121, 115, 116, 101, 109]⟩, .int .i64 0, .int .i64 0, .iface 278 (.pointer (some p))] 88)⟩, ((Below.refl _ _).alloc (l3 _) _).alloc (by simp) _⟩)
def CheckPost (st lb : Int) (xs : List E) (p : Addr) (e : Ending) (w' : World) : Prop :=
  if xs.all (fun x => !offB st lb x) then e = .returned .nilIface else ∃ v, e = .returned v /\ FaultAt w' v ⟨#[115, 121, 115, 116, 101, 109]⟩ (.iface 278 (.pointer (some p)))
theorem j1j {p : Addr} (st lb s0 : Int) (a : Option Addr) (b off c : Nat) (xs : List E) (w : World) (hG : GErr 15 p w) (h : ¬ HeadBad st lb s0 xs.length) (hS : SlAt encE 3 w a b off xs) :
    Calls Tryz.prog 164 #[.agg #[.int .i64 st, .int .i64 lb, .int .i64 s0, .slice a xs.length c]] w fun e w' =>
      CheckPost st lb xs p e w' /\ Below w.heap.size w w' := by
 unfold HeadBad at h
 have hg := hG.cell
 have hlt := hG.lt
 obtain ⟨h1, h2, h3, h4, h5, h6, h7⟩ : 0 <= st /\ st <= 1000 /\ 1 <= lb /\ lb <= 201 /\ 0 <= s0 /\ (s0 = 0 ∨ s0 < st) /\ (xs.length : Int) <= 10000 := by omega
 clear h
 obtain ⟨C, hC⟩ : ∃ C, C = Obj.cells #[.int .i64 st, .int .i64 lb, .int .i64 s0, .slice a xs.length c] 24 := ⟨_, rfl⟩
 obtain ⟨F, hF⟩ : ∃ F, F = Obj.cells #[.string ⟨#[115, 121, 115, 116, 101, 109]⟩, .int .i64 0, .int .i64 0, .iface 278 (.pointer (some p))] 88 := ⟨_, rfl⟩
 have HC := Lib.hid hC; have HF := Lib.hid hF
 clear hC hF
 go_enter Tryz.func164, Tryz.ntmps164
 go_wp2_with (go_at_call 43; refine (p0n _ _ _ _).mono ?_; rintro e w1 ⟨rfl, rfl⟩)
 all_goals (
 rw [<- HC.out, <- HF.out]
 go_loopw [5, 54] (fun _ i wr => ∃ k : Nat, k <= xs.length /\ i = .int .i64 k /\ (∀ j x, j < k -> xs[j]? = some x -> offB st lb x = false) /\ Below (w.heap.size + 2) ((w.alloc C).alloc F) wr)
   (fun _ i _ => xs.length - (intOf i).toNat)
 case atStart => exact ⟨0, Nat.zero_le _, rfl, by intro j x hj; omega, Below.refl _ _⟩
 case round => (
 obtain ⟨k, hk, rfl, hz, hB⟩ := hrel
 have HZ := Lib.hid hz; clear hz
 have hsz : w.heap.size + 2 <= wr.heap.size := by simpa using hB.size
 have q0 : wr.heap[w.heap.size]? = some C := by
   rw [hB.block _ (by omega), Below.heap_alloc _ _ _ (by simp), heap_alloc_new]
 have q1 : wr.heap[w.heap.size + 1]? = some F := by
   rw [hB.block _ (by omega)]; simpa using heap_alloc_new (w.alloc C) F
 rw [HC.out] at q0; rw [HF.out] at q1
 have s0' : wr.cell? ⟨w.heap.size, 0, none⟩ = some (.int .i64 st) := by simp [World.cell?, q0]
 have s1' : wr.cell? ⟨w.heap.size, 1, none⟩ = some (.int .i64 lb) := by simp [World.cell?, q0]
 have s2' : wr.cell? ⟨w.heap.size, 2, none⟩ = some (.int .i64 s0) := by simp [World.cell?, q0]
 have s3' : wr.cell? ⟨w.heap.size, 3, none⟩ = some (.slice a xs.length c) := by simp [World.cell?, q0]
 have Q1 := Lib.hid q1
 have hBw : Below w.heap.size w wr := (((Below.refl _ _).alloc (l3 _) C).alloc (by simp) F).trans (hB.mono (by omega))
 have hltr : w.heap.size < wr.heap.size := by omega
 clear q0 q1
 by_cases hlt2 : k < xs.length
 · (
 obtain ⟨x, hx⟩ := j0a hlt2
 obtain rfl := hS.ad (by omega)
 have hS' := hS.below hBw (l3 _)
 have c0 := hS'.e0 hx; have c1 := hS'.e1 hx; have c2 := hS'.e2 hx
 have hbl := hS'.lt (by omega)
 have HX := Lib.hid hx
 have HS := Lib.hid hS
 clear hx hS hS' hg
 by_cases ho : offB st lb x = true
 · (
 have HO := Lib.hid ho
 go_wp2_with (go_at_call 178; refine (v0c st lb s0 _ x _).mono ?_; rintro e w1 ⟨rfl, hB1⟩)
 go_ret
 have hall : xs.all (fun x => !offB st lb x) = false := by
   rw [List.all_eq_false]
   exact ⟨x, List.mem_of_getElem? HX.out, by simp [HO.out]⟩
 have hB2 := (hB.alloc hsz _).trans (hB1.mono (by simp; omega))
 refine ⟨by unfold CheckPost; rw [hall]; exact ⟨_, rfl, ⟨w.heap.size + 1, rfl, by rw [hB2.block _ (by omega), <- HF.out]; simpa using heap_alloc_new (w.alloc C) F⟩⟩, (((Below.refl _ _).alloc (l3 _) C).alloc (by simp) F).trans (hB2.mono (by omega))⟩)
 · (
 have ho' : offB st lb x = false := by simpa using ho
 have HO := Lib.hid ho'
 clear ho
 go_wp2_with (go_at_call 178; refine (v0c st lb s0 _ x _).mono ?_; rintro e w1 ⟨rfl, hB1⟩)
 go_roundw
 case rel => exact ⟨k + 1, by omega, by go_num, by (
 intro j y hj hy
 by_cases hjk : j = k
 · subst hjk
   rw [HX.out] at hy
   simp at hy; subst hy
   exact HO.out
 · exact HZ.out j y (by omega) hy), (hB.alloc hsz _).trans (hB1.mono (by simp; omega))⟩
 case measure => simp [intOf]; omega))
 · (
 clear hS hg
 go_wp2
 go_ret
 have hall : xs.all (fun x => !offB st lb x) = true := by (
 rw [List.all_eq_true]
 intro x hx
 obtain ⟨j, hj, rfl⟩ := List.getElem_of_mem hx
 simp [HZ.out j _ (by omega) (l4 hj)])
 exact ⟨by unfold CheckPost; rw [hall]; rfl, hBw⟩)))
end Go.Proofs.YtbaccmlfnbgehaaGreatDoor
