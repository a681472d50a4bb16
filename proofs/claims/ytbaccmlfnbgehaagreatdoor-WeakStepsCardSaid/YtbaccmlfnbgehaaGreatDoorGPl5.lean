/-
  Lemmas.
-/
import Derived.Test.YtbaccmlfnbgehaaGreatDoorGPlB
import Derived.Test.YtbaccmlfnbgehaaGreatDoorGPl1
open List renaming getElem?_eq_some_iff → l0, getElem?_eq_getElem → l1, range → l2, take_append_of_le_length → l3, mem_of_getElem? → l4, idxOf_lt_length_of_mem → l5, filter_cons → l6, getD_eq_getElem?_getD → l7, nodup_cons → l8, length_pos_of_mem → l9, getElem?_eq_none → m0, mem_append → m1, mem_cons → m2, mem_map → m3
namespace Go.Proofs.YtbaccmlfnbgehaaGreatDoor
namespace Pl
def cnt (L : List Int) (k : Int) : Nat := (L.filter (fun x => decide (x < k))).length
theorem y1r : ∀ {L : List Int}, L.Nodup -> ∀ {i : Nat} {x : Int}, L[i]? = some x -> L.idxOf x = i
  | [], _, i, x, h => by simp at h
  | y :: L, hn, 0, x, h => by simp at h; subst h; simp
  | y :: L, hn, i + 1, x, h => by
    have hy := l8.1 hn
    have hx : L[i]? = some x := by simpa using h
    have hb : (y == x) = false := by
      simp; rintro rfl; exact hy.1 (l4 hx)
    rw [List.idxOf_cons, hb, y1r hy.2 hx]; rfl
end Pl
end Go.Proofs.YtbaccmlfnbgehaaGreatDoor
namespace Go.Proofs.YtbaccmlfnbgehaaGreatDoor
namespace Pl
structure Cyc (s : Lts) (n : Nat) (f : Nat -> Int) : Prop where
  same : ∀ x y, x < n -> y < n -> (f x = f y ↔ TR s x y /\ TR s y x)
  down : ∀ x y, tau s x y -> f y <= f x
theorem TI.done {s : Lts} {n : Nat} {t : TS} {nx : Nat -> Nat} (h : TI s n t [] nx) : t.opn = [] := by
 rcases List.eq_nil_or_concat t.opn with h1 | ⟨l, x, h1⟩
 · exact h1
 · obtain ⟨g, hg, _⟩ := h.back x (by rw [h1]; simp)
   simp at hg
theorem TI.cyc {s : Lts} {n : Nat} {t : TS} {nx : Nat -> Nat} (h : TI s n t [] nx) (hr : s.Right) (hn : s.st = (n : Int)) (hall : ∀ x, x < n -> t.num x ≠ 0) : Cyc s n t.cls := by
 have ho := h.done
 have hc : ∀ x, x < n -> t.clo x := fun x hx => ⟨hall x hx, by rw [ho]; simp⟩
 exact ⟨fun x y hx hy => h.scc x y hx hy (hc x hx) (hc y hy), fun x y hxy => (h.clos x (x0l hr hn hxy).1 (hc x (x0l hr hn hxy).1) y hxy).2⟩
def fl (n : Nat) (f : Nat -> Int) : List Int := (l2 n).map f
theorem j0v (n : Nat) (f : Nat -> Int) : (fl n f).length = n := by simp [fl]
theorem j0t {n : Nat} (f : Nat -> Int) {i : Nat} (h : i < n) : (fl n f)[i]? = some (f i) := by simp [fl, h]
theorem Cyc.unique {s : Lts} {n : Nat} {f g : Nat -> Int} (hf : Cyc s n f) (hg : Cyc s n g) : canon (fl n f) = canon (fl n g) := by
 rw [x0f (by rw [j0v, j0v])]
 intro i k x y x' y' hki hx hy hx' hy'
 have hi : i < n := by have := (l0.1 hx).1; rwa [j0v] at this
 have hk : k < n := by omega
 rw [j0t f hi] at hx; rw [j0t f hk] at hy; rw [j0t g hi] at hx'; rw [j0t g hk] at hy'
 cases hx; cases hy; cases hx'; cases hy'
 rw [hf.same i k hi hk, hg.same i k hi hk]
def clf (n : Nat) (f : Nat -> Int) (x : Nat) : Int := ((dist (fl n f)).idxOf (f x) : Int)
theorem p0p (n : Nat) (f : Nat -> Int) : canon (fl n f) = fl n (clf n f) := by
 unfold canon fl clf
 rw [List.map_map]; rfl
theorem x2n {n : Nat} {f : Nat -> Int} {x y : Nat} (hx : x < n) (hy : y < n) : clf n f x = clf n f y ↔ f x = f y :=
  q0y (j0t f hx) (j0t f hy)
theorem q0g {n : Nat} {f : Nat -> Int} {x : Nat} (hx : x < n) : 0 <= clf n f x /\ clf n f x < (dist (fl n f)).length := by
 have : f x ∈ dist (fl n f) := (k0l _).2 (l4 (j0t f hx))
 have := l5 this
 unfold clf; omega
theorem k2c (l : List Int) : dist (canon l) = (l2 (dist l).length).map Int.ofNat := by
 have hinj : ∀ x ∈ l, ∀ y ∈ l, ((dist l).idxOf x : Int) = ((dist l).idxOf y : Int) -> x = y := by
   intro x hx y hy he
   exact y1q ((k0l l).2 hx) ((k0l l).2 hy) (by omega)
 unfold canon
 rw [u1g (f := fun x => ((dist l).idxOf x : Int)) l hinj]
 apply List.ext_getElem?
 intro i
 by_cases h : i < (dist l).length
 · have hg : (dist l)[i]? = some (dist l)[i] := l1 h
   rw [List.getElem?_map, hg]
   simp [y1r (x0b l) hg, h]
 · rw [m0 (by simp; omega), m0 (by simp; omega)]
theorem v2n {n : Nat} {f : Nat -> Int} {k : Nat} (h : k < (dist (fl n f)).length) : ∃ x, x < n /\ clf n f x = (k : Int) := by
 have hg : (dist (fl n f))[k]? = some (dist (fl n f))[k] := l1 h
 have hm : (dist (fl n f))[k] ∈ dist (fl n f) := List.getElem_mem h
 have hm2 := (k0l _).1 hm
 obtain ⟨x, hx, he⟩ := m3.1 (show (dist (fl n f))[k] ∈ (l2 n).map f from hm2)
 rw [List.mem_range] at hx
 refine ⟨x, hx, ?_⟩
 unfold clf
 rw [he]
 rw [y1r (x0b _) hg]
end Pl
end Go.Proofs.YtbaccmlfnbgehaaGreatDoor
namespace Go.Proofs.YtbaccmlfnbgehaaGreatDoor
namespace Pl
def stp (s : Lts) (p : Nat) (l : Int) (t : Nat) : Prop := ((p : Int), l, (t : Int)) ∈ s.es
def IsBis (s : Lts) (n : Nat) (R : Nat -> Nat -> Prop) : Prop := ∀ p q, p < n -> q < n -> R p q ->
  (∀ l t, t < n -> stp s p l t -> ∃ u, u < n /\ stp s q l u /\ R t u) /\ (∀ l u, u < n -> stp s q l u -> ∃ t, t < n /\ stp s p l t /\ R t u)
structure Big (s : Lts) (n : Nat) (C : Nat -> Int) : Prop where
  bis : IsBis s n (fun p q => C p = C q)
  all : ∀ R, IsBis s n R -> ∀ p q, p < n -> q < n -> R p q -> C p = C q
section
variable {s : Lts} {n : Nat}
theorem Big.same {C D : Nat -> Int} (h : Big s n C) (h' : Big s n D) {p q : Nat} (hp : p < n) (hq : q < n) : C p = C q ↔ D p = D q :=
  ⟨fun e => h'.all _ h.bis p q hp hq e, fun e => h.all _ h'.bis p q hp hq e⟩
theorem k2b {C D : Nat -> Int} (h : ∀ p q, p < n -> q < n -> (C p = C q ↔ D p = D q)) : canon (fl n C) = canon (fl n D) := by
 rw [x0f (by rw [j0v, j0v])]
 intro i k x y x' y' hki hx hy hx' hy'
 have hi : i < n := by have := (l0.1 hx).1; rwa [j0v] at this
 have hk : k < n := by omega
 rw [j0t C hi] at hx; rw [j0t C hk] at hy; rw [j0t D hi] at hx'; rw [j0t D hk] at hy'
 cases hx; cases hy; cases hx'; cases hy'
 exact h i k hi hk
theorem Big.uniq {C D : Nat -> Int} (h : Big s n C) (h' : Big s n D) : canon (fl n C) = canon (fl n D) := k2b (fun _ _ hp hq => h.same h' hp hq)
theorem Big.congr {C D : Nat -> Int} (h : Big s n C) (e : ∀ p q, p < n -> q < n -> (C p = C q ↔ D p = D q)) : Big s n D where
  bis p q hp hq hpq := by
    obtain ⟨h1, h2⟩ := h.bis p q hp hq ((e p q hp hq).2 hpq)
    refine ⟨fun l t ht hs => ?_, fun l u hu hs => ?_⟩
    · obtain ⟨u, hu, h3, h4⟩ := h1 l t ht hs
      exact ⟨u, hu, h3, (e t u ht hu).1 h4⟩
    · obtain ⟨t, ht, h3, h4⟩ := h2 l u hu hs
      exact ⟨t, ht, h3, (e t u ht hu).1 h4⟩
  all R hR p q hp hq h1 := (e p q hp hq).1 (h.all R hR p q hp hq h1)
theorem Big.steps {s' : Lts} {C : Nat -> Int} (h : Big s n C) (e : ∀ p l t, p < n -> t < n -> (stp s p l t ↔ stp s' p l t)) : Big s' n C where
  bis p q hp hq hpq := by
    obtain ⟨h1, h2⟩ := h.bis p q hp hq hpq
    refine ⟨fun l t ht hs => ?_, fun l u hu hs => ?_⟩
    · obtain ⟨u, hu, h3, h4⟩ := h1 l t ht ((e p l t hp ht).2 hs)
      exact ⟨u, hu, (e q l u hq hu).1 h3, h4⟩
    · obtain ⟨t, ht, h3, h4⟩ := h2 l u hu ((e q l u hq hu).2 hs)
      exact ⟨t, ht, (e p l t hp ht).1 h3, h4⟩
  all R hR p q hp hq h1 := by
    refine h.all R (fun p q hp hq hpq => ?_) p q hp hq h1
    obtain ⟨h1, h2⟩ := hR p q hp hq hpq
    refine ⟨fun l t ht hs => ?_, fun l u hu hs => ?_⟩
    · obtain ⟨u, hu, h3, h4⟩ := h1 l t ht ((e p l t hp ht).1 hs)
      exact ⟨u, hu, (e q l u hq hu).2 h3, h4⟩
    · obtain ⟨t, ht, h3, h4⟩ := h2 l u hu ((e q l u hq hu).1 hs)
      exact ⟨t, ht, (e p l t hp ht).2 h3, h4⟩
end
end Pl
end Go.Proofs.YtbaccmlfnbgehaaGreatDoor
namespace Go.Proofs.YtbaccmlfnbgehaaGreatDoor
namespace Pl
section
variable {s : Lts} {n : Nat}
def MetP (s : Lts) (n : Nat) (C : Nat -> Int) (p q : Nat) : Prop := ∀ l t, t < n -> stp s p l t -> ∃ u, u < n /\ stp s q l u /\ C u = C t
theorem Big.met {C : Nat -> Int} (h : Big s n C) {p q : Nat} (hp : p < n) (hq : q < n) (e : C p = C q) : MetP s n C p q := fun l t ht hs => by
  obtain ⟨u, hu, h1, h2⟩ := (h.bis p q hp hq e).1 l t ht hs
  exact ⟨u, hu, h1, h2.symm⟩
theorem Big.join {C : Nat -> Int} (h : Big s n C) {p q : Nat} (hp : p < n) (hq : q < n) (h1 : MetP s n C p q) (h2 : MetP s n C q p) : C p = C q := by
 have key : ∀ p q, p < n -> q < n -> MetP s n C p q -> ∀ a b, a < n -> b < n -> C a = C p -> C b = C q -> ∀ l t, t < n -> stp s a l t -> ∃ u, u < n /\ stp s b l u /\ C t = C u := by (
 intro p q hp hq hm a b ha hb ea eb l t ht hs
 obtain ⟨t', ht', s1, e1⟩ := (h.bis a p ha hp ea).1 l t ht hs
 obtain ⟨u', hu', s2, e2⟩ := hm l t' ht' s1
 obtain ⟨u, hu, s3, e3⟩ := (h.bis q b hq hb eb.symm).1 l u' hu' s2
 exact ⟨u, hu, s3, by rw [e1, <- e2, e3]⟩)
 refine h.all (fun a b => C a = C b ∨ (C a = C p /\ C b = C q) ∨ (C a = C q /\ C b = C p)) (fun a b ha hb hab => ?_) p q hp hq (.inr (.inl ⟨rfl, rfl⟩))
 rcases hab with e | ⟨e1, e2⟩ | ⟨e1, e2⟩
 · (
 obtain ⟨c1, c2⟩ := h.bis a b ha hb e
 refine ⟨fun l t ht hs => ?_, fun l u hu hs => ?_⟩
 · obtain ⟨u, hu, s1, e1⟩ := c1 l t ht hs
   exact ⟨u, hu, s1, .inl e1⟩
 · obtain ⟨t, ht, s1, e1⟩ := c2 l u hu hs
   exact ⟨t, ht, s1, .inl e1⟩)
 · refine ⟨fun l t ht hs => ?_, fun l u hu hs => ?_⟩
   · obtain ⟨u, hu, s1, e3⟩ := key p q hp hq h1 a b ha hb e1 e2 l t ht hs
     exact ⟨u, hu, s1, .inl e3⟩
   · obtain ⟨t, ht, s1, e3⟩ := key q p hq hp h2 b a hb ha e2 e1 l u hu hs
     exact ⟨t, ht, s1, .inl e3.symm⟩
 · refine ⟨fun l t ht hs => ?_, fun l u hu hs => ?_⟩
   · obtain ⟨u, hu, s1, e3⟩ := key q p hq hp h2 a b ha hb e1 e2 l t ht hs
     exact ⟨u, hu, s1, .inl e3⟩
   · obtain ⟨t, ht, s1, e3⟩ := key p q hp hq h1 b a hb ha e2 e1 l u hu hs
     exact ⟨t, ht, s1, .inl e3.symm⟩
theorem Big.iso {t : Lts} {C D : Nat -> Int} {f g : Nat -> Nat} (h : Big s n C) (h' : Big t n D) (hf : ∀ p, p < n -> f p < n /\ g (f p) = p) (hg : ∀ p, p < n -> g p < n /\ f (g p) = p)
    (he : ∀ p l u, p < n -> u < n -> (stp s p l u ↔ stp t (f p) l (f u))) {p q : Nat} (hp : p < n) (hq : q < n) : C p = C q ↔ D (f p) = D (f q) := by
 have he' : ∀ p l u, p < n -> u < n -> (stp t p l u ↔ stp s (g p) l (g u)) := fun p l u hp hu => by
   rw [he _ l _ (hg p hp).1 (hg u hu).1, (hg p hp).2, (hg u hu).2]
 constructor
 · (
 intro e
 refine h'.all (fun a b => C (g a) = C (g b)) (fun a b ha hb hab => ?_) (f p) (f q) (hf p hp).1 (hf q hq).1 (by rw [(hf p hp).2, (hf q hq).2]; exact e)
 obtain ⟨c1, c2⟩ := h.bis (g a) (g b) (hg a ha).1 (hg b hb).1 hab
 refine ⟨fun l x hx hs => ?_, fun l x hx hs => ?_⟩
 · obtain ⟨u, hu, s1, e1⟩ := c1 l (g x) (hg x hx).1 ((he' a l x ha hx).1 hs)
   exact ⟨f u, (hf u hu).1, (he' b l _ hb (hf u hu).1).2 (by rw [(hf u hu).2]; exact s1), (by show C _ = C _; rw [(hf u hu).2]; exact e1)⟩
 · obtain ⟨u, hu, s1, e1⟩ := c2 l (g x) (hg x hx).1 ((he' b l x hb hx).1 hs)
   exact ⟨f u, (hf u hu).1, (he' a l _ ha (hf u hu).1).2 (by rw [(hf u hu).2]; exact s1), (by show C _ = C _; rw [(hf u hu).2]; exact e1)⟩)
 · (
 intro e
 refine h.all (fun a b => D (f a) = D (f b)) (fun a b ha hb hab => ?_) p q hp hq e
 obtain ⟨c1, c2⟩ := h'.bis (f a) (f b) (hf a ha).1 (hf b hb).1 hab
 refine ⟨fun l x hx hs => ?_, fun l x hx hs => ?_⟩
 · obtain ⟨u, hu, s1, e1⟩ := c1 l (f x) (hf x hx).1 ((he a l x ha hx).1 hs)
   exact ⟨g u, (hg u hu).1, (he b l _ hb (hg u hu).1).2 (by rw [(hg u hu).2]; exact s1), (by show D _ = D _; rw [(hg u hu).2]; exact e1)⟩
 · obtain ⟨u, hu, s1, e1⟩ := c2 l (f x) (hf x hx).1 ((he b l x hb hx).1 hs)
   exact ⟨g u, (hg u hu).1, (he a l _ ha (hg u hu).1).2 (by rw [(hg u hu).2]; exact s1), (by show D _ = D _; rw [(hg u hu).2]; exact e1)⟩)
end
end Pl
end Go.Proofs.YtbaccmlfnbgehaaGreatDoor
namespace Go.Proofs.YtbaccmlfnbgehaaGreatDoor
namespace Pl
def atL (c : List Int) (x : Int) : Int := c.getD x.toNat 0
def colE (c : List Int) (es : List E) : List E := (es.map (fun x => (atL c x.1, x.2.1, atL c x.2.2))).filter (fun y => !(decide (y.2.1 = 0) && decide (y.1 = y.2.2)))
def col (s : Lts) (c : List Int) : Lts := ⟨((dist c).length : Int), s.lb, if s.st = 0 then 0 else atL c s.s0, nf ltE (colE c s.es)⟩
theorem k1n {c : List Int} {es : List E} {y : E} : y ∈ colE c es ↔ ∃ x ∈ es, y = (atL c x.1, x.2.1, atL c x.2.2) /\ ¬ (y.2.1 = 0 /\ y.1 = y.2.2) := by
 unfold colE
 rw [List.mem_filter, m3]
 constructor
 · rintro ⟨⟨x, hx, rfl⟩, h⟩
   refine ⟨x, hx, rfl, fun ⟨h1, h2⟩ => ?_⟩
   have h1' : x.2.1 = 0 := h1
   have h2' : atL c x.1 = atL c x.2.2 := h2
   simp [h1', h2'] at h
 · (
 rintro ⟨x, hx, rfl, h⟩
 refine ⟨⟨x, hx, rfl⟩, ?_⟩
 by_cases h1 : x.2.1 = 0
 · have h2 : ¬ atL c x.1 = atL c x.2.2 := fun e => h ⟨h1, e⟩
   simp [h2]
 · simp [h1])
theorem p1h (c : List Int) (es : List E) : (colE c es).length <= es.length := by
 unfold colE
 have := List.length_filter_le (fun y : E => !(decide (y.2.1 = 0) && decide (y.1 = y.2.2))) (es.map (fun x => (atL c x.1, x.2.1, atL c x.2.2)))
 rw [List.length_map] at this
 exact this
theorem p1g (s : Lts) (c : List Int) : Srt ltE (col s c).es := x0d y0k _
theorem z0c {n : Nat} {f : Nat -> Int} {x : Int} (h0 : 0 <= x) (h : x < (n : Int)) : atL (fl n f) x = f x.toNat := by
 unfold atL
 have : (fl n f)[x.toNat]? = some (f x.toNat) := j0t f (by omega)
 rw [l7, this]; rfl
section
variable {s : Lts} {n : Nat} {f : Nat -> Int}
theorem v2l (n : Nat) (f : Nat -> Int) : dist (fl n (clf n f)) = (l2 (dist (fl n f)).length).map Int.ofNat := by
 rw [<- p0p, k2c]
theorem p0o (n : Nat) (f : Nat -> Int) : (dist (fl n (clf n f))).length = (dist (fl n f)).length := by rw [v2l]; simp
theorem y0r (n : Nat) (f : Nat -> Int) : (dist (fl n f)).length <= n := by have := u1h (fl n f); rw [j0v] at this; exact this
theorem x1c (hr : s.Right) (hn : s.st = (n : Int)) : (col s (fl n (clf n f))).Right := by
 have h0 := hr.st0
 have hd := y0r n f
 have hdl := p0o n f
 have hat : ∀ x : Int, 0 <= x -> x < (n : Int) -> 0 <= atL (fl n (clf n f)) x /\ atL (fl n (clf n f)) x < ((dist (fl n f)).length : Int) := by (
 intro x h1 h2
 rw [z0c h1 h2]
 exact q0g (by omega))
 refine ⟨?_, fun y hy => ?_⟩
 · (
 have h2 := p1h (fl n (clf n f)) s.es
 have h3 := k0s (lt := ltE) (colE (fl n (clf n f)) s.es)
 have h4 : 0 <= (col s (fl n (clf n f))).s0 /\ ((col s (fl n (clf n f))).s0 = 0 ∨ (col s (fl n (clf n f))).s0 < ((dist (fl n f)).length : Int)) := by (
 simp only [col]
 split
 · omega
 · rename_i hne
   have := hat s.s0 (by omega) (by omega)
   omega)
 unfold HeadBad
 simp only [col] at *
 omega)
 · (
 obtain ⟨x, hx, rfl, _⟩ := k1n.1 ((p0j y0k y _).1 hy)
 have h1 := j0g.1 (hr.edges x hx)
 have h2 := hat x.1 (by omega) (by omega)
 have h3 := hat x.2.2 (by omega) (by omega)
 rw [j0g]
 simp only [col]
 omega)
theorem u2t (hr : s.Right) (hn : s.st = (n : Int)) {X Y : Nat} (h : tau (col s (fl n (clf n f))) X Y) : X ≠ Y /\ ∃ x y, x < n /\ y < n /\ tau s x y /\ clf n f x = (X : Int) /\ clf n f y = (Y : Int) := by
 obtain ⟨e, he, heq, hne⟩ := k1n.1 ((p0j y0k _ _).1 h)
 have h1 := j0g.1 (hr.edges e he)
 simp only [Prod.mk.injEq] at heq
 obtain ⟨q1, q2, q3⟩ := heq
 rw [z0c (by omega) (by omega)] at q1 q3
 refine ⟨fun e2 => hne ⟨rfl, by rw [e2]⟩, e.1.toNat, e.2.2.toNat, by omega, by omega, ?_, q1.symm, q3.symm⟩
 unfold tau
 rw [show ((e.1.toNat : Nat) : Int) = e.1 by omega, show ((e.2.2.toNat : Nat) : Int) = e.2.2 by omega, q2]
 exact he
noncomputable def rank (n : Nat) (f : Nat -> Int) (X : Nat) : Int := (dist (fl n f)).getD X 0
theorem p2s {n : Nat} {f : Nat -> Int} {x X : Nat} (hx : x < n) (h : clf n f x = (X : Int)) : rank n f X = f x := by
 have hm : f x ∈ dist (fl n f) := (k0l _).2 (l4 (j0t f hx))
 have h1 := l5 hm
 have h2 : (dist (fl n f))[(dist (fl n f)).idxOf (f x)] = f x := List.getElem_idxOf h1
 unfold clf at h
 have hX : (dist (fl n f)).idxOf (f x) = X := by omega
 unfold rank
 subst hX
 rw [l7, l1 h1, Option.getD_some, h2]
theorem p2t (hr : s.Right) (hn : s.st = (n : Int)) (hc : Cyc s n f) {X Y : Nat} (h : tau (col s (fl n (clf n f))) X Y) : rank n f Y < rank n f X := by
 obtain ⟨hne, x, y, hx, hy, hxy, h1, h2⟩ := u2t hr hn h
 rw [p2s hx h1, p2s hy h2]
 have h3 := hc.down x y hxy
 have h4 : f x ≠ f y := fun e => hne (by have := (x2n hx hy).2 e; omega)
 omega
end
end Pl
end Go.Proofs.YtbaccmlfnbgehaaGreatDoor
namespace Go.Proofs.YtbaccmlfnbgehaaGreatDoor
namespace Pl
theorem x0t : ∀ (L M : List Nat), L.Nodup -> (∀ x ∈ L, x ∈ M) -> L.length <= M.length
  | [], _, _, _ => by simp
  | x :: L, M, hn, hs => by
    have hx := l8.1 hn
    have hm := hs x List.mem_cons_self
    have ih := x0t L (M.erase x) hx.2 (fun y hy => (List.mem_erase_of_ne (fun e : y = x => hx.1 (e ▸ hy))).2 (hs y (List.mem_cons_of_mem _ hy)))
    rw [List.length_erase_of_mem hm] at ih
    have := l9 hm
    simp; omega
section
variable {t : Lts}
theorem u1o (hr : t.Right) (hs : Srt ltE t.es) (k : Nat) : (taus t k).Nodup := by
 have h0 : ∀ y ∈ t.outs (k : Int), 0 <= y.1 /\ 0 <= y.2 := fun y hy => by
   have := j0g.1 (hr.edges _ (j0s.1 hy)); simp only at this; omega
 have h1 := x0s hs (k : Int)
 unfold taus List.Nodup
 rw [List.pairwise_map]
 have h2 : ((t.outs (k : Int)).takeWhile (fun y => y.1 == 0)).Pairwise (fun a b => ltS a b = true) := List.Pairwise.sublist (List.takeWhile_sublist _) h1
 refine List.Pairwise.imp_of_mem ?_ h2
 intro a b ha hb hab e
 have ma := (k0z h1 (fun y hy => (h0 y hy).1) a).1 ha
 have mb := (k0z h1 (fun y hy => (h0 y hy).1) b).1 hb
 rw [x0g] at hab
 have qa := h0 a ma.1; have qb := h0 b mb.1
 omega
def Wt (t : Lts) (D : List Nat) (k : Nat) : Nat := ((taus t k).filter (fun y => !decide (y ∈ D))).length
theorem p3o (k : Nat) : Wt t [] k = (taus t k).length := by
 unfold Wt
 rw [List.filter_eq_self.2]
 intro y _; simp
theorem z1p (hr : t.Right) (hs : Srt ltE t.es) {D : List Nat} {k : Nat} : Wt t D k = 0 ↔ ∀ y, tau t k y -> y ∈ D := by
 unfold Wt
 rw [List.length_eq_zero_iff, List.filter_eq_nil_iff]
 constructor
 · intro h y hy
   have := h y ((p0m hr hs).2 hy)
   simpa using this
 · intro h y hy
   have := h y ((p0m hr hs).1 hy)
   simp [this]
theorem j1g {D : List Nat} {k : Nat} (hk : k ∉ D) : ∀ (l : List Nat), l.Nodup ->
    (l.filter (fun y => !decide (y ∈ D))).length = (l.filter (fun y => !decide (y ∈ D ++ [k]))).length + (if k ∈ l then 1 else 0)
  | [], _ => by simp
  | x :: l, hn => by
    have hx := l8.1 hn
    have ih := j1g hk l hx.2
    by_cases e : x = k
    · subst e
      have h1 : (!decide (x ∈ D)) = true := by simp [hk]
      have h2 : (!decide (x ∈ D ++ [x])) = false := by simp
      rw [l6, l6, h1, h2]
      rw [if_neg hx.1] at ih
      simp [ih]
    · have h1 : (k ∈ x :: l) ↔ k ∈ l := by
        rw [m2]
        exact ⟨fun h => h.resolve_left (fun e2 => e e2.symm), .inr⟩
      have h2 : (x ∈ D ++ [k]) ↔ x ∈ D := by
        rw [m1, List.mem_singleton]
        exact ⟨fun h => h.resolve_right e, .inl⟩
      rw [l6, l6]
      simp only [h1, h2]
      by_cases h3 : x ∈ D
      · simp only [h3, decide_true, Bool.not_true, Bool.false_eq_true, if_false]; exact ih
      · simp only [h3, decide_false, Bool.not_false, if_true, List.length_cons]; omega
theorem p3p (hr : t.Right) (hs : Srt ltE t.es) {D : List Nat} {k : Nat} (hk : k ∉ D) (j : Nat) [Decidable (tau t j k)] : Wt t D j = Wt t (D ++ [k]) j + (if tau t j k then 1 else 0) := by
 have h := j1g hk (taus t j) (u1o hr hs j)
 unfold Wt
 rw [h]
 congr 1
 by_cases h2 : tau t j k
 · rw [if_pos ((p0m hr hs).2 h2), if_pos h2]
 · rw [if_neg (fun h3 => h2 ((p0m hr hs).1 h3)), if_neg h2]
structure IsNext (t : Lts) (m : Nat) (D : List Nat) (k : Nat) : Prop where
  lt : k < m
  new : k ∉ D
  all : Wt t D k = 0
  first : ∀ j, j < k -> j ∈ D ∨ Wt t D j ≠ 0
inductive OrdL (t : Lts) (m : Nat) : List Nat -> Prop
  | nil : OrdL t m []
  | step {D : List Nat} {k : Nat} : OrdL t m D -> IsNext t m D k -> OrdL t m (D ++ [k])
theorem IsNext.unique {m : Nat} {D : List Nat} {k k' : Nat} (h : IsNext t m D k) (h' : IsNext t m D k') : k = k' := by
 rcases Nat.lt_trichotomy k k' with h1 | h1 | h1
 · rcases h'.first k h1 with h2 | h2
   · exact absurd h2 h.new
   · exact absurd h.all h2
 · exact h1
 · rcases h.first k' h1 with h2 | h2
   · exact absurd h2 h'.new
   · exact absurd h'.all h2
theorem OrdL.unique {m : Nat} {D D' : List Nat} (h : OrdL t m D) (h' : OrdL t m D') (hl : D.length = D'.length) : D = D' := by
 induction h generalizing D' with
 | nil => cases h' with
   | nil => rfl
   | step _ _ => simp at hl
 | step h1 h2 ih => cases h' with
   | nil => simp at hl
   | step h3 h4 =>
     have := ih h3 (by simpa using hl)
     subst this
     rw [h2.unique h4]
theorem OrdL.nodup {m : Nat} {D : List Nat} (h : OrdL t m D) : D.Nodup := by
 induction h with
 | nil => simp
 | step _ h2 ih =>
   rw [List.nodup_append]
   exact ⟨ih, by simp, fun a ha b hb e => by simp at hb; subst hb; subst e; exact h2.new ha⟩
theorem OrdL.rng {m : Nat} {D : List Nat} (h : OrdL t m D) : ∀ x ∈ D, x < m := by
 induction h with
 | nil => simp
 | step _ h2 ih => (
 intro x hx
 rcases m1.1 hx with h3 | h3
 · exact ih x h3
 · simp at h3; subst h3; exact h2.lt)
theorem OrdL.ahead (hr : t.Right) (hs : Srt ltE t.es) {m : Nat} {D : List Nat} (h : OrdL t m D) : ∀ (i k y : Nat), D[i]? = some k -> tau t k y -> y ∈ D.take i := by
 induction h with
 | nil => simp
 | @step D k' _ h2 ih => (
 intro i k y hi hy
 by_cases hlt : i < D.length
 · rw [List.getElem?_append_left hlt] at hi
   rw [l3 (by omega)]
   exact ih i k y hi hy
 · (
 have hl := (l0.1 hi).1
 simp at hl
 obtain rfl : i = D.length := by omega
 simp at hi
 subst hi
 rw [l3 (by omega), List.take_length]
 exact (z1p hr hs).1 h2.all y hy))
theorem OrdL.closed (hr : t.Right) (hs : Srt ltE t.es) {m : Nat} {D : List Nat} (h : OrdL t m D) {k y : Nat} (hk : k ∈ D) (hy : tau t k y) : y ∈ D := by
 obtain ⟨i, hi⟩ := List.getElem?_of_mem hk
 exact List.mem_of_mem_take (h.ahead hr hs i k y hi hy)
theorem k3u (P : Nat -> Prop) : (∃ k, P k) -> ∃ k, P k /\ ∀ j, j < k -> ¬ P j := by
 rintro ⟨k, hk⟩
 induction k using Nat.strongRecOn with
 | _ k ih => (
 by_cases h : ∃ j, j < k /\ P j
 · obtain ⟨j, hj, hp⟩ := h
   exact ih j hj hp
 · exact ⟨k, hk, fun j hj hp => h ⟨j, hj, hp⟩⟩)
theorem j3m (hr : t.Right) (hs : Srt ltE t.es) {m : Nat} (hm : t.st = (m : Int)) {F : Nat -> Int} (hF : ∀ x y, tau t x y -> F y < F x) {D : List Nat} {x : Nat} (hx : x < m) (hxD : x ∉ D) : ∃ k, IsNext t m D k := by
 -- one of least rank among those that are left
 have h1 : ∃ k, k < m /\ k ∉ D /\ ∀ y, tau t k y -> y ∈ D := by
   have key : ∀ (B : Nat) (x : Nat), x < m -> x ∉ D -> (F x - F x).toNat <= B -> True := fun _ _ _ _ _ => trivial
   clear key
   -- by strong induction over how many of those left are below
   have : ∀ (c : Nat) (x : Nat), x < m -> x ∉ D -> ((l2 m).filter (fun z => decide (F z < F x))).length <= c -> ∃ k, k < m /\ k ∉ D /\ ∀ y, tau t k y -> y ∈ D := by
     intro c
     induction c with
     | zero =>
       intro x hx hxD hc
       refine ⟨x, hx, hxD, fun y hy => ?_⟩
       have hyF := hF x y hy
       have hym := (x0l hr hm hy).2
       have : y ∈ (l2 m).filter (fun z => decide (F z < F x)) := by simp [hym, hyF]
       have := l9 this
       omega
     | succ c ih =>
       intro x hx hxD hc
       by_cases h : ∀ y, tau t x y -> y ∈ D
       · exact ⟨x, hx, hxD, h⟩
       · obtain ⟨y, hy⟩ := Classical.not_forall.1 h
         obtain ⟨hy1, hy2⟩ := Classical.not_imp.1 hy
         have hyF := hF x y hy1
         have hym := (x0l hr hm hy1).2
         refine ih y hym hy2 ?_
         have hsub : ((l2 m).filter (fun z => decide (F z < F y))).length + 1 <= ((l2 m).filter (fun z => decide (F z < F x))).length := by
           have hnd : (y :: (l2 m).filter (fun z => decide (F z < F y))).Nodup := by
             rw [l8]
             exact ⟨by simp, List.Nodup.sublist List.filter_sublist List.nodup_range⟩
           have := x0t _ ((l2 m).filter (fun z => decide (F z < F x))) hnd (fun z hz => by
             rcases m2.1 hz with rfl | hz
             · simp [hym, hyF]
             · simp at hz ⊢; omega)
           simpa using this
         omega
   exact this _ x hx hxD (Nat.le_refl _)
 obtain ⟨k, ⟨h2, h3, h4⟩, h5⟩ := k3u (fun k => k < m /\ k ∉ D /\ Wt t D k = 0) (by
   obtain ⟨k, h2, h3, h4⟩ := h1
   exact ⟨k, h2, h3, (z1p hr hs).2 h4⟩)
 refine ⟨k, h2, h3, h4, fun j hj => ?_⟩
 by_cases hjD : j ∈ D
 · exact .inl hjD
 · exact .inr (fun e => h5 j hj ⟨by omega, hjD, e⟩)
end
end Pl
end Go.Proofs.YtbaccmlfnbgehaaGreatDoor
