/-
  Lemmas.
-/
import Derived.Test.YtjchdegapadepaaGreatDoorGPl3
import Derived.Test.YtjchdegapadepaaGreatDoorGPl1
import Derived.Lib.TrailingZeros
namespace Go.Proofs.YtjchdegapadepaaGreatDoor
namespace Pl
def nUp (xs : List Int) (i : Nat) : Nat := (dist (xs.take i)).length
theorem nUp_le (xs : List Int) (i : Nat) : nUp xs i <= i := by
 unfold nUp; have := k0h (xs.take i); simp at this; omega
theorem z1l {xs : List Int} {i : Nat} {x : Int} (h : xs[i]? = some x) : xs.take (i + 1) = xs.take i ++ [x] := by
 obtain ⟨hl, rfl⟩ := List.getElem?_eq_some_iff.1 h
 exact List.take_succ_eq_append_getElem hl
theorem p2w {xs : List Int} {i : Nat} {x : Int} (h : xs[i]? = some x) :
    (if (nUp xs i : Int) <= ((dist xs).idxOf x : Int) then ((dist xs).idxOf x : Int) + 1 else (nUp xs i : Int)) = nUp xs (i + 1) := by
 have h3 := u0s (xs.take (i + 1)) (xs.drop (i + 1)) (y := x) (by rw [z1l h]; simp)
 rw [List.take_append_drop] at h3
 rw [h3]
 unfold nUp
 rw [z1l h, j0i]
 by_cases hm : x ∈ dist (xs.take i)
 · rw [z1v hm]
   have := List.idxOf_lt_length_of_mem hm
   unfold addN
   rw [if_pos hm, if_neg (by omega)]
 · rw [idx_new hm]
   unfold addN
   rw [if_neg hm, if_pos (by omega)]
   simp
end Pl
end Go.Proofs.YtjchdegapadepaaGreatDoor
namespace Go.Proofs.YtjchdegapadepaaGreatDoor
namespace Pl
def atL (c : List Int) (x : Int) : Int := c.getD x.toNat 0
def colE (c : List Int) (es : List E) : List E := (es.map (fun x => (atL c x.1, x.2.1, atL c x.2.2))).filter (fun y => !(decide (y.2.1 = 0) && decide (y.1 = y.2.2)))
def col (s : Lts) (c : List Int) : Lts := ⟨((dist c).length : Int), s.lb, if s.st = 0 then 0 else atL c s.s0, nf ltE (colE c s.es)⟩
theorem x0m {c : List Int} {es : List E} {y : E} : y ∈ colE c es ↔ ∃ x ∈ es, y = (atL c x.1, x.2.1, atL c x.2.2) /\ ¬ (y.2.1 = 0 /\ y.1 = y.2.2) := by
 unfold colE
 rw [List.mem_filter, List.mem_map]
 constructor
 · rintro ⟨⟨x, hx, rfl⟩, h⟩
   refine ⟨x, hx, rfl, fun ⟨h1, h2⟩ => ?_⟩
   have h1' : x.2.1 = 0 := h1
   have h2' : atL c x.1 = atL c x.2.2 := h2
   simp [h1', h2'] at h
 · (
 rintro ⟨x, hx, rfl, h⟩
 refine ⟨⟨x, hx, rfl⟩, ?_⟩
 by_cases h1 : x.2.1 = 0
 · have h2 : ¬ atL c x.1 = atL c x.2.2 := fun e => h ⟨h1, e⟩
   simp [h2]
 · simp [h1])
theorem z0b (c : List Int) (es : List E) : (colE c es).length <= es.length := by
 unfold colE
 have := List.length_filter_le (fun y : E => !(decide (y.2.1 = 0) && decide (y.1 = y.2.2))) (es.map (fun x => (atL c x.1, x.2.1, atL c x.2.2)))
 rw [List.length_map] at this
 exact this
theorem y0h (s : Lts) (c : List Int) : Srt ltE (col s c).es := k0r p0p _
theorem y0t {n : Nat} {f : Nat -> Int} {x : Int} (h0 : 0 <= x) (h : x < (n : Int)) : atL (fl n f) x = f x.toNat := by
 unfold atL
 have : (fl n f)[x.toNat]? = some (f x.toNat) := j0h f (by omega)
 rw [List.getD_eq_getElem?_getD, this]; rfl
section
variable {s : Lts} {n : Nat} {f : Nat -> Int}
theorem dist_clf (n : Nat) (f : Nat -> Int) : dist (fl n (clf n f)) = (List.range (dist (fl n f)).length).map Int.ofNat := by
 rw [<- j0u, j2d]
theorem j0y (n : Nat) (f : Nat -> Int) : (dist (fl n (clf n f))).length = (dist (fl n f)).length := by rw [dist_clf]; simp
theorem y0g (n : Nat) (f : Nat -> Int) : (dist (fl n f)).length <= n := by have := k0h (fl n f); rw [j0g] at this; exact this
theorem q0n (hr : s.Right) (hn : s.st = (n : Int)) : (col s (fl n (clf n f))).Right := by
 have h0 := hr.st0
 have hd := y0g n f
 have hdl := j0y n f
 have hat : ∀ x : Int, 0 <= x -> x < (n : Int) -> 0 <= atL (fl n (clf n f)) x /\ atL (fl n (clf n f)) x < ((dist (fl n f)).length : Int) := by (
 intro x h1 h2
 rw [y0t h1 h2]
 exact p0q (by omega))
 refine ⟨?_, fun y hy => ?_⟩
 · (
 have h2 := z0b (fl n (clf n f)) s.es
 have h3 := j0s (lt := ltE) (colE (fl n (clf n f)) s.es)
 have h4 : 0 <= (col s (fl n (clf n f))).s0 /\ ((col s (fl n (clf n f))).s0 = 0 ∨ (col s (fl n (clf n f))).s0 < ((dist (fl n f)).length : Int)) := by (
 simp only [col]
 split
 · omega
 · rename_i hne
   have := hat s.s0 (by omega) (by omega)
   omega)
 unfold HeadBad
 simp only [col] at *
 omega)
 · (
 obtain ⟨x, hx, rfl, _⟩ := x0m.1 ((j0t p0p y _).1 hy)
 have h1 := j0e.1 (hr.edges x hx)
 have h2 := hat x.1 (by omega) (by omega)
 have h3 := hat x.2.2 (by omega) (by omega)
 rw [j0e]
 simp only [col]
 omega)
theorem tau_col (hr : s.Right) (hn : s.st = (n : Int)) {X Y : Nat} (h : tau (col s (fl n (clf n f))) X Y) : X ≠ Y /\ ∃ x y, x < n /\ y < n /\ tau s x y /\ clf n f x = (X : Int) /\ clf n f y = (Y : Int) := by
 obtain ⟨e, he, heq, hne⟩ := x0m.1 ((j0t p0p _ _).1 h)
 have h1 := j0e.1 (hr.edges e he)
 simp only [Prod.mk.injEq] at heq
 obtain ⟨q1, q2, q3⟩ := heq
 rw [y0t (by omega) (by omega)] at q1 q3
 refine ⟨fun e2 => hne ⟨rfl, by rw [e2]⟩, e.1.toNat, e.2.2.toNat, by omega, by omega, ?_, q1.symm, q3.symm⟩
 unfold tau
 rw [show ((e.1.toNat : Nat) : Int) = e.1 by omega, show ((e.2.2.toNat : Nat) : Int) = e.2.2 by omega, q2]
 exact he
noncomputable def rank (n : Nat) (f : Nat -> Int) (X : Nat) : Int := (dist (fl n f)).getD X 0
theorem k2x {n : Nat} {f : Nat -> Int} {x X : Nat} (hx : x < n) (h : clf n f x = (X : Int)) : rank n f X = f x := by
 have hm : f x ∈ dist (fl n f) := (k0g _).2 (List.mem_of_getElem? (j0h f hx))
 have h1 := List.idxOf_lt_length_of_mem hm
 have h2 : (dist (fl n f))[(dist (fl n f)).idxOf (f x)] = f x := List.getElem_idxOf h1
 unfold clf at h
 have hX : (dist (fl n f)).idxOf (f x) = X := by omega
 unfold rank
 subst hX
 rw [List.getD_eq_getElem?_getD, List.getElem?_eq_getElem h1, Option.getD_some, h2]
theorem p1t (hr : s.Right) (hn : s.st = (n : Int)) (hc : Cyc s n f) {X Y : Nat} (h : tau (col s (fl n (clf n f))) X Y) : rank n f Y < rank n f X := by
 obtain ⟨hne, x, y, hx, hy, hxy, h1, h2⟩ := tau_col hr hn h
 rw [k2x hx h1, k2x hy h2]
 have h3 := hc.down x y hxy
 have h4 : f x ≠ f y := fun e => hne (by have := (v0k hx hy).2 e; omega)
 omega
theorem k2y (hr : s.Right) (hn : s.st = (n : Int)) (hc : Cyc s n f) {X Y : Nat} (h : TR (col s (fl n (clf n f))) X Y) : X = Y ∨ rank n f Y < rank n f X := by
 induction h with
 | refl => exact .inl rfl
 | tail _ ht ih => (
 have := p1t hr hn hc ht
 rcases ih with rfl | h
 · exact .inr this
 · exact .inr (by omega))
theorem x2b (hr : s.Right) (hn : s.st = (n : Int)) (hc : Cyc s n f) {m : Nat} {g : Nat -> Int} (hg : Cyc (col s (fl n (clf n f))) m g) : canon (fl m g) = (List.range m).map Int.ofNat := by
 apply x2i
 intro X Y hX hY h
 obtain ⟨h1, h2⟩ := (hg.same X Y hX hY).1 h
 rcases k2y hr hn hc h1 with h3 | h3
 · exact h3
 · rcases k2y hr hn hc h2 with h4 | h4
   · exact h4.symm
   · omega
theorem col_col (hr : s.Right) (hn : s.st = (n : Int)) : col (col s (fl n (clf n f))) ((List.range (dist (fl n f)).length).map Int.ofNat) = col s (fl n (clf n f)) := by
 obtain ⟨m, hm⟩ : ∃ m, m = (dist (fl n f)).length := ⟨_, rfl⟩
 obtain ⟨t, ht⟩ : ∃ t, t = col s (fl n (clf n f)) := ⟨_, rfl⟩
 have htr : t.Right := by rw [ht]; exact q0n hr hn
 have hst : t.st = (m : Int) := by rw [ht, hm]; show ((dist (fl n (clf n f))).length : Int) = _; rw [j0y]
 have hes : Srt ltE t.es := by rw [ht]; exact y0h s _
 have hne : ∀ y ∈ t.es, ¬ (y.2.1 = 0 /\ y.1 = y.2.2) := by (
 intro y hy
 rw [ht] at hy
 obtain ⟨x, _, _, h⟩ := x0m.1 ((j0t p0p _ _).1 hy)
 exact h)
 have hs0 : t.st = 0 -> t.s0 = 0 := fun h => by
   have := htr.st0; omega
 have hat : ∀ x : Int, 0 <= x -> x < (m : Int) -> atL ((List.range m).map Int.ofNat) x = x := by (
 intro x h1 h2
 unfold atL
 have : ((List.range m).map Int.ofNat)[x.toNat]? = some x := by
   have h3 : x.toNat < m := by omega
   simp [h3]; omega
 rw [List.getD_eq_getElem?_getD, this]; rfl)
 rw [<- hm, <- ht]
 have h1 : ((dist ((List.range m).map Int.ofNat)).length : Int) = t.st := by rw [p0u, hst]; simp
 have h2 : (if t.st = 0 then 0 else atL ((List.range m).map Int.ofNat) t.s0) = t.s0 := by (
 split
 · rename_i h; exact (hs0 h).symm
 · have := htr.st0; exact hat _ (by omega) (by omega))
 have h3 : nf ltE (colE ((List.range m).map Int.ofNat) t.es) = t.es := by (
 symm
 apply u1s p0p hes
 intro y
 rw [x0m]
 constructor
 · intro hy
   have := j0e.1 (htr.edges y hy)
   refine ⟨y, hy, ?_, hne y hy⟩
   rw [hat _ (by omega) (by omega), hat _ (by omega) (by omega)]
 · rintro ⟨x, hx, rfl, _⟩
   have := j0e.1 (htr.edges x hx)
   rw [hat _ (by omega) (by omega), hat _ (by omega) (by omega)]
   exact hx)
 show Lts.mk _ _ _ _ = t
 rw [h1, h2, h3]
end
end Pl
end Go.Proofs.YtjchdegapadepaaGreatDoor
namespace Go.Proofs.YtjchdegapadepaaGreatDoor
namespace Pl
section
variable {s : Lts} {n : Nat}
def MetP (s : Lts) (n : Nat) (C : Nat -> Int) (p q : Nat) : Prop := ∀ l t, t < n -> stp s p l t -> ∃ u, u < n /\ stp s q l u /\ C u = C t
theorem Big.met {C : Nat -> Int} (h : Big s n C) {p q : Nat} (hp : p < n) (hq : q < n) (e : C p = C q) : MetP s n C p q := fun l t ht hs => by
  obtain ⟨u, hu, h1, h2⟩ := (h.bis p q hp hq e).1 l t ht hs
  exact ⟨u, hu, h1, h2.symm⟩
theorem Big.iso {t : Lts} {C D : Nat -> Int} {f g : Nat -> Nat} (h : Big s n C) (h' : Big t n D) (hf : ∀ p, p < n -> f p < n /\ g (f p) = p) (hg : ∀ p, p < n -> g p < n /\ f (g p) = p)
    (he : ∀ p l u, p < n -> u < n -> (stp s p l u ↔ stp t (f p) l (f u))) {p q : Nat} (hp : p < n) (hq : q < n) : C p = C q ↔ D (f p) = D (f q) := by
 have he' : ∀ p l u, p < n -> u < n -> (stp t p l u ↔ stp s (g p) l (g u)) := fun p l u hp hu => by
   rw [he _ l _ (hg p hp).1 (hg u hu).1, (hg p hp).2, (hg u hu).2]
 constructor
 · (
 intro e
 refine h'.all (fun a b => C (g a) = C (g b)) (fun a b ha hb hab => ?_) (f p) (f q) (hf p hp).1 (hf q hq).1 (by rw [(hf p hp).2, (hf q hq).2]; exact e)
 obtain ⟨c1, c2⟩ := h.bis (g a) (g b) (hg a ha).1 (hg b hb).1 hab
 refine ⟨fun l x hx hs => ?_, fun l x hx hs => ?_⟩
 · obtain ⟨u, hu, s1, e1⟩ := c1 l (g x) (hg x hx).1 ((he' a l x ha hx).1 hs)
   exact ⟨f u, (hf u hu).1, (he' b l _ hb (hf u hu).1).2 (by rw [(hf u hu).2]; exact s1), (by show C _ = C _; rw [(hf u hu).2]; exact e1)⟩
 · obtain ⟨u, hu, s1, e1⟩ := c2 l (g x) (hg x hx).1 ((he' b l x hb hx).1 hs)
   exact ⟨f u, (hf u hu).1, (he' a l _ ha (hf u hu).1).2 (by rw [(hf u hu).2]; exact s1), (by show C _ = C _; rw [(hf u hu).2]; exact e1)⟩)
 · (
 intro e
 refine h.all (fun a b => D (f a) = D (f b)) (fun a b ha hb hab => ?_) p q hp hq e
 obtain ⟨c1, c2⟩ := h'.bis (f a) (f b) (hf a ha).1 (hf b hb).1 hab
 refine ⟨fun l x hx hs => ?_, fun l x hx hs => ?_⟩
 · obtain ⟨u, hu, s1, e1⟩ := c1 l (f x) (hf x hx).1 ((he a l x ha hx).1 hs)
   exact ⟨g u, (hg u hu).1, (he b l _ hb (hg u hu).1).2 (by rw [(hg u hu).2]; exact s1), (by show D _ = D _; rw [(hg u hu).2]; exact e1)⟩
 · obtain ⟨u, hu, s1, e1⟩ := c2 l (f x) (hf x hx).1 ((he b l x hb hx).1 hs)
   exact ⟨g u, (hg u hu).1, (he a l _ ha (hg u hu).1).2 (by rw [(hg u hu).2]; exact s1), (by show D _ = D _; rw [(hg u hu).2]; exact e1)⟩)
def smallB (b h : Int) : Bool := !(decide (b = 0)) && !(decide (b = h)) && decide (b <= h - b)
inductive Played (s : Lts) (n : Nat) (T : List (List Int)) : Nat -> (Nat -> Nat) -> (Nat -> Nat) -> Nat -> Prop where
  | first {inn inn' hp : Nat -> Nat} (hn : 0 < n) (hT : T[0]? = some ((List.range n).map Int.ofNat)) (h0 : ∀ p q, p < n -> q < n -> inn p = inn q) (h : SplitBy s n (fun _ => True) inn inn') (he : ∀ q, q < n -> hp q = 0) : Played s n T 1 inn' hp 1
  | next {k : Nat} {inn hp inn1 inn2 hp2 : Nat -> Nat} {H p : Nat} (h : Played s n T k inn hp H) (hpn : p < n) (hT : T[k]? = some ((memN n inn (inn p)).map Int.ofNat)) (hs : smallB (memN n inn (inn p)).length (memN n hp (hp p)).length = true)
      (h1 : SplitBy s n (fun t => inn t = inn p) inn inn1) (h2 : SplitBy s n (fun t => hp t = hp p /\ inn t ≠ inn p) inn1 inn2) (he : ∀ q, q < n -> hp2 q = if inn q = inn p then H else hp q) : Played s n T (k + 1) inn2 hp2 (H + 1)
def MayB (n : Nat) (inn hp : Nat -> Nat) (l : List Int) : Prop := ∃ p, p < n /\ l = (memN n inn (inn p)).map Int.ofNat /\ smallB (memN n inn (inn p)).length (memN n hp (hp p)).length = true
def PlayBad (s : Lts) (n : Nat) (T : List (List Int)) : Prop :=
  n = 0 ∨ T[0]? ≠ some ((List.range n).map Int.ofNat) ∨ (∃ (k : Nat) (inn hp : Nat -> Nat) (H : Nat) (L : List Int), Played s n T k inn hp H /\ T[k]? = some L /\ ¬ MayB n inn hp L) ∨
  ∃ (inn hp : Nat -> Nat) (H p q : Nat), Played s n T T.length inn hp H /\ p < n /\ q < n /\ hp p = hp q /\ inn p ≠ inn q
end
end Pl
end Go.Proofs.YtjchdegapadepaaGreatDoor
namespace Go.Proofs.YtjchdegapadepaaGreatDoor
namespace Pl
theorem p0t : ∀ (L M : List Nat), L.Nodup -> (∀ x ∈ L, x ∈ M) -> L.length <= M.length
  | [], _, _, _ => by simp
  | x :: L, M, hn, hs => by
    have hx := List.nodup_cons.1 hn
    have hm := hs x List.mem_cons_self
    have ih := p0t L (M.erase x) hx.2 (fun y hy => (List.mem_erase_of_ne (fun e : y = x => hx.1 (e ▸ hy))).2 (hs y (List.mem_cons_of_mem _ hy)))
    rw [List.length_erase_of_mem hm] at ih
    have := List.length_pos_of_mem hm
    simp; omega
section
variable {t : Lts}
theorem v1l (hr : t.Right) (hs : Srt ltE t.es) (k : Nat) : (taus t k).Nodup := by
 have h0 : ∀ y ∈ t.outs (k : Int), 0 <= y.1 /\ 0 <= y.2 := fun y hy => by
   have := j0e.1 (hr.edges _ (j0j.1 hy)); simp only at this; omega
 have h1 := x0k hs (k : Int)
 unfold taus List.Nodup
 rw [List.pairwise_map]
 have h2 : ((t.outs (k : Int)).takeWhile (fun y => y.1 == 0)).Pairwise (fun a b => ltS a b = true) := List.Pairwise.sublist (List.takeWhile_sublist _) h1
 refine List.Pairwise.imp_of_mem ?_ h2
 intro a b ha hb hab e
 have ma := (p0c h1 (fun y hy => (h0 y hy).1) a).1 ha
 have mb := (p0c h1 (fun y hy => (h0 y hy).1) b).1 hb
 rw [k0q] at hab
 have qa := h0 a ma.1; have qb := h0 b mb.1
 omega
def Wt (t : Lts) (D : List Nat) (k : Nat) : Nat := ((taus t k).filter (fun y => !decide (y ∈ D))).length
theorem Wt_nil (k : Nat) : Wt t [] k = (taus t k).length := by
 unfold Wt
 rw [List.filter_eq_self.2]
 intro y _; simp
theorem y1y (hr : t.Right) (hs : Srt ltE t.es) {D : List Nat} {k : Nat} : Wt t D k = 0 ↔ ∀ y, tau t k y -> y ∈ D := by
 unfold Wt
 rw [List.length_eq_zero_iff, List.filter_eq_nil_iff]
 constructor
 · intro h y hy
   have := h y ((p0o hr hs).2 hy)
   simpa using this
 · intro h y hy
   have := h y ((p0o hr hs).1 hy)
   simp [this]
theorem u0w {D : List Nat} {k : Nat} (hk : k ∉ D) : ∀ (l : List Nat), l.Nodup ->
    (l.filter (fun y => !decide (y ∈ D))).length = (l.filter (fun y => !decide (y ∈ D ++ [k]))).length + (if k ∈ l then 1 else 0)
  | [], _ => by simp
  | x :: l, hn => by
    have hx := List.nodup_cons.1 hn
    have ih := u0w hk l hx.2
    by_cases e : x = k
    · subst e
      have h1 : (!decide (x ∈ D)) = true := by simp [hk]
      have h2 : (!decide (x ∈ D ++ [x])) = false := by simp
      rw [List.filter_cons, List.filter_cons, h1, h2]
      rw [if_neg hx.1] at ih
      simp [ih]
    · have h1 : (k ∈ x :: l) ↔ k ∈ l := by
        rw [List.mem_cons]
        exact ⟨fun h => h.resolve_left (fun e2 => e e2.symm), .inr⟩
      have h2 : (x ∈ D ++ [k]) ↔ x ∈ D := by
        rw [List.mem_append, List.mem_singleton]
        exact ⟨fun h => h.resolve_right e, .inl⟩
      rw [List.filter_cons, List.filter_cons]
      simp only [h1, h2]
      by_cases h3 : x ∈ D
      · simp only [h3, decide_true, Bool.not_true, Bool.false_eq_true, if_false]; exact ih
      · simp only [h3, decide_false, Bool.not_false, if_true, List.length_cons]; omega
theorem Wt_add (hr : t.Right) (hs : Srt ltE t.es) {D : List Nat} {k : Nat} (hk : k ∉ D) (j : Nat) [Decidable (tau t j k)] : Wt t D j = Wt t (D ++ [k]) j + (if tau t j k then 1 else 0) := by
 have h := u0w hk (taus t j) (v1l hr hs j)
 unfold Wt
 rw [h]
 congr 1
 by_cases h2 : tau t j k
 · rw [if_pos ((p0o hr hs).2 h2), if_pos h2]
 · rw [if_neg (fun h3 => h2 ((p0o hr hs).1 h3)), if_neg h2]
structure IsNext (t : Lts) (m : Nat) (D : List Nat) (k : Nat) : Prop where
  lt : k < m
  new : k ∉ D
  all : Wt t D k = 0
  first : ∀ j, j < k -> j ∈ D ∨ Wt t D j ≠ 0
inductive OrdL (t : Lts) (m : Nat) : List Nat -> Prop
  | nil : OrdL t m []
  | step {D : List Nat} {k : Nat} : OrdL t m D -> IsNext t m D k -> OrdL t m (D ++ [k])
theorem IsNext.unique {m : Nat} {D : List Nat} {k k' : Nat} (h : IsNext t m D k) (h' : IsNext t m D k') : k = k' := by
 rcases Nat.lt_trichotomy k k' with h1 | h1 | h1
 · rcases h'.first k h1 with h2 | h2
   · exact absurd h2 h.new
   · exact absurd h.all h2
 · exact h1
 · rcases h.first k' h1 with h2 | h2
   · exact absurd h2 h'.new
   · exact absurd h'.all h2
theorem OrdL.unique {m : Nat} {D D' : List Nat} (h : OrdL t m D) (h' : OrdL t m D') (hl : D.length = D'.length) : D = D' := by
 induction h generalizing D' with
 | nil => cases h' with
   | nil => rfl
   | step _ _ => simp at hl
 | step h1 h2 ih => cases h' with
   | nil => simp at hl
   | step h3 h4 =>
     have := ih h3 (by simpa using hl)
     subst this
     rw [h2.unique h4]
theorem OrdL.nodup {m : Nat} {D : List Nat} (h : OrdL t m D) : D.Nodup := by
 induction h with
 | nil => simp
 | step _ h2 ih =>
   rw [List.nodup_append]
   exact ⟨ih, by simp, fun a ha b hb e => by simp at hb; subst hb; subst e; exact h2.new ha⟩
theorem OrdL.rng {m : Nat} {D : List Nat} (h : OrdL t m D) : ∀ x ∈ D, x < m := by
 induction h with
 | nil => simp
 | step _ h2 ih => (
 intro x hx
 rcases List.mem_append.1 hx with h3 | h3
 · exact ih x h3
 · simp at h3; subst h3; exact h2.lt)
theorem OrdL.ahead (hr : t.Right) (hs : Srt ltE t.es) {m : Nat} {D : List Nat} (h : OrdL t m D) : ∀ (i k y : Nat), D[i]? = some k -> tau t k y -> y ∈ D.take i := by
 induction h with
 | nil => simp
 | @step D k' _ h2 ih => (
 intro i k y hi hy
 by_cases hlt : i < D.length
 · rw [List.getElem?_append_left hlt] at hi
   rw [List.take_append_of_le_length (by omega)]
   exact ih i k y hi hy
 · (
 have hl := (List.getElem?_eq_some_iff.1 hi).1
 simp at hl
 obtain rfl : i = D.length := by omega
 simp at hi
 subst hi
 rw [List.take_append_of_le_length (by omega), List.take_length]
 exact (y1y hr hs).1 h2.all y hy))
theorem OrdL.closed (hr : t.Right) (hs : Srt ltE t.es) {m : Nat} {D : List Nat} (h : OrdL t m D) {k y : Nat} (hk : k ∈ D) (hy : tau t k y) : y ∈ D := by
 obtain ⟨i, hi⟩ := List.getElem?_of_mem hk
 exact List.mem_of_mem_take (h.ahead hr hs i k y hi hy)
theorem min_ex (P : Nat -> Prop) : (∃ k, P k) -> ∃ k, P k /\ ∀ j, j < k -> ¬ P j := by
 rintro ⟨k, hk⟩
 induction k using Nat.strongRecOn with
 | _ k ih => (
 by_cases h : ∃ j, j < k /\ P j
 · obtain ⟨j, hj, hp⟩ := h
   exact ih j hj hp
 · exact ⟨k, hk, fun j hj hp => h ⟨j, hj, hp⟩⟩)
theorem next_ex (hr : t.Right) (hs : Srt ltE t.es) {m : Nat} (hm : t.st = (m : Int)) {F : Nat -> Int} (hF : ∀ x y, tau t x y -> F y < F x) {D : List Nat} {x : Nat} (hx : x < m) (hxD : x ∉ D) : ∃ k, IsNext t m D k := by
 -- one of least rank among those that are left
 have h1 : ∃ k, k < m /\ k ∉ D /\ ∀ y, tau t k y -> y ∈ D := by
   have key : ∀ (B : Nat) (x : Nat), x < m -> x ∉ D -> (F x - F x).toNat <= B -> True := fun _ _ _ _ _ => trivial
   clear key
   -- by strong induction over how many of those left are below
   have : ∀ (c : Nat) (x : Nat), x < m -> x ∉ D -> ((List.range m).filter (fun z => decide (F z < F x))).length <= c -> ∃ k, k < m /\ k ∉ D /\ ∀ y, tau t k y -> y ∈ D := by
     intro c
     induction c with
     | zero =>
       intro x hx hxD hc
       refine ⟨x, hx, hxD, fun y hy => ?_⟩
       have hyF := hF x y hy
       have hym := (y0k hr hm hy).2
       have : y ∈ (List.range m).filter (fun z => decide (F z < F x)) := by simp [hym, hyF]
       have := List.length_pos_of_mem this
       omega
     | succ c ih =>
       intro x hx hxD hc
       by_cases h : ∀ y, tau t x y -> y ∈ D
       · exact ⟨x, hx, hxD, h⟩
       · obtain ⟨y, hy⟩ := Classical.not_forall.1 h
         obtain ⟨hy1, hy2⟩ := Classical.not_imp.1 hy
         have hyF := hF x y hy1
         have hym := (y0k hr hm hy1).2
         refine ih y hym hy2 ?_
         have hsub : ((List.range m).filter (fun z => decide (F z < F y))).length + 1 <= ((List.range m).filter (fun z => decide (F z < F x))).length := by
           have hnd : (y :: (List.range m).filter (fun z => decide (F z < F y))).Nodup := by
             rw [List.nodup_cons]
             exact ⟨by simp, List.Nodup.sublist List.filter_sublist List.nodup_range⟩
           have := p0t _ ((List.range m).filter (fun z => decide (F z < F x))) hnd (fun z hz => by
             rcases List.mem_cons.1 hz with rfl | hz
             · simp [hym, hyF]
             · simp at hz ⊢; omega)
           simpa using this
         omega
   exact this _ x hx hxD (Nat.le_refl _)
 obtain ⟨k, ⟨h2, h3, h4⟩, h5⟩ := min_ex (fun k => k < m /\ k ∉ D /\ Wt t D k = 0) (by
   obtain ⟨k, h2, h3, h4⟩ := h1
   exact ⟨k, h2, h3, (y1y hr hs).2 h4⟩)
 refine ⟨k, h2, h3, h4, fun j hj => ?_⟩
 by_cases hjD : j ∈ D
 · exact .inl hjD
 · exact .inr (fun e => h5 j hj ⟨by omega, hjD, e⟩)
end
end Pl
end Go.Proofs.YtjchdegapadepaaGreatDoor
namespace Go.Proofs.YtjchdegapadepaaGreatDoor
namespace Pl
def pushL (out : List E) (e : E) : List E := if out.getLast? = some e then out else out ++ [e]
structure Mrg (a b out : List E) (i k : Nat) : Prop where
  srt : Srt ltE out
  mem : ∀ x, x ∈ out ↔ x ∈ a.take i ∨ x ∈ b.take k
  la : ∀ o ∈ out, ∀ x ∈ a.drop i, ltE x o = false
  lb : ∀ o ∈ out, ∀ x ∈ b.drop k, ltE x o = false
theorem Mrg.nil (a b : List E) : Mrg a b [] 0 0 := ⟨by simp [Srt], by simp, by simp, by simp⟩
theorem k2b {out : List E} {e : E} (h : Srt ltE out) (he : ∀ o ∈ out, ltE e o = false) : Srt ltE (pushL out e) /\ ∀ x, x ∈ pushL out e ↔ x ∈ out ∨ x = e := by
 unfold pushL
 by_cases hl : out.getLast? = some e
 · rw [if_pos hl]
   have hm : e ∈ out := List.mem_of_getLast? hl
   exact ⟨h, fun x => ⟨.inl, fun hx => by rcases hx with hx | rfl; exact hx; exact hm⟩⟩
 · rw [if_neg hl]
   refine ⟨?_, fun x => by simp⟩
   unfold Srt at *
   rw [List.pairwise_append]
   refine ⟨h, by simp, fun o ho x hx => ?_⟩
   simp at hx; subst hx
   -- o is the last, or ahead of the last
   obtain ⟨l, z, rfl⟩ : ∃ l z, out = l ++ [z] := by
     rcases List.eq_nil_or_concat out with rfl | ⟨l, z, hz⟩
     · simp at ho
     · exact ⟨l, z, by simpa using hz⟩
   have hz : z ≠ x := by rintro rfl; simp at hl
   have hzx : ltE z x = true := by
     rcases p0p.total z x with h1 | h1 | h1
     · exact h1
     · exact absurd h1 hz
     · rw [he z (by simp)] at h1; cases h1
   rcases List.mem_append.1 ho with h1 | h1
   · have := (List.pairwise_append.1 h).2.2 o h1 z (by simp)
     exact p0p.trans _ _ _ this hzx
   · simp at h1; subst h1; exact hzx
theorem asymE {a b : E} (h : ltE a b = true) : ltE b a = false := by
 rw [Bool.eq_false_iff]; intro h2
 have := p0p.trans _ _ _ h h2
 rw [p0p.irrefl] at this; cases this
theorem notBelow {b : List E} {k : Nat} {x e : E} (h : Srt ltE b) (hk : b[k]? = some x) (hx : ltE x e = false) : ∀ y ∈ b.drop k, ltE y e = false := by
 intro y hy
 obtain ⟨j, hj⟩ := List.getElem?_of_mem hy
 rw [List.getElem?_drop] at hj
 by_cases h0 : j = 0
 · subst h0; rw [Nat.add_zero, hk] at hj; cases hj; exact hx
 · (
 obtain ⟨h1, e1⟩ := List.getElem?_eq_some_iff.1 hk
 obtain ⟨h2, e2⟩ := List.getElem?_eq_some_iff.1 hj
 have := List.pairwise_iff_getElem.1 h k (k + j) h1 h2 (by omega)
 rw [e1, e2] at this
 rw [Bool.eq_false_iff]; intro h3
 rw [p0p.trans _ _ _ this h3] at hx; cases hx)
theorem Mrg.pushA {a b out : List E} {i k : Nat} {e : E} (h : Mrg a b out i k) (ha : Srt ltE a) (hi : a[i]? = some e) (hb : ∀ y ∈ b.drop k, ltE y e = false) : Mrg a b (pushL out e) (i + 1) k := by
 obtain ⟨hil, hie⟩ := List.getElem?_eq_some_iff.1 hi
 have hd : a.drop i = e :: a.drop (i + 1) := by rw [List.drop_eq_getElem_cons hil, hie]
 have hlo : ∀ o ∈ out, ltE e o = false := fun o ho => h.la o ho e (by rw [hd]; simp)
 obtain ⟨h1, h2⟩ := k2b h.srt hlo
 refine ⟨h1, fun x => ?_, fun o ho x hx => ?_, fun o ho x hx => ?_⟩
 · (
 rw [h2, h.mem, List.take_succ_eq_append_getElem hil, hie, List.mem_append, List.mem_singleton]
 constructor
 · rintro ((h | h) | h)
   · exact .inl (.inl h)
   · exact .inr h
   · exact .inl (.inr h)
 · rintro ((h | h) | h)
   · exact .inl (.inl h)
   · exact .inr h
   · exact .inl (.inr h))
 · rcases (h2 o).1 ho with h3 | rfl
   · exact h.la o h3 x (by rw [hd]; simp [hx])
   · have hs : Srt ltE (a.drop i) := List.Pairwise.drop ha
     rw [hd] at hs
     exact asymE ((List.pairwise_cons.1 hs).1 x hx)
 · rcases (h2 o).1 ho with h3 | rfl
   · exact h.lb o h3 x hx
   · exact hb x hx
theorem Mrg.swap {a b out : List E} {i k : Nat} (h : Mrg a b out i k) : Mrg b a out k i := ⟨h.srt, fun x => by rw [h.mem]; exact Or.comm, h.lb, h.la⟩
theorem Mrg.pushB {a b out : List E} {i k : Nat} {e : E} (h : Mrg a b out i k) (hb : Srt ltE b) (hi : b[k]? = some e) (ha : ∀ y ∈ a.drop i, ltE y e = false) : Mrg a b (pushL out e) i (k + 1) :=
  (h.swap.pushA hb hi ha).swap
theorem Mrg.done {a b out l : List E} (h : Mrg a b out a.length b.length) (hm : ∀ x, x ∈ l ↔ x ∈ a ∨ x ∈ b) : out = nf ltE l :=
  u1s p0p h.srt (fun x => by rw [h.mem, List.take_length, List.take_length, hm])
theorem Mrg.len {out : List E} {e : E} : (pushL out e).length <= out.length + 1 := by
 unfold pushL; split <;> simp
theorem half_mem (l : List E) (m : Nat) (x : E) : x ∈ l ↔ x ∈ nf ltE (l.take m) ∨ x ∈ nf ltE (l.drop m) := by
 rw [j0t p0p, j0t p0p, <- List.mem_append, List.take_append_drop]
theorem nf_short {l : List E} (h : l.length < 2) : nf ltE l = l := by
 match l, h with
 | [], _ => rfl
 | [x], _ => rfl
 | _ :: _ :: _, h => simp at h; omega
end Pl
end Go.Proofs.YtjchdegapadepaaGreatDoor
namespace Go.Proofs.YtjchdegapadepaaGreatDoor
namespace Pl
def tauOf (s : Lts) (q : Int) : Lts := ⟨s.st, s.lb, q, s.es.filter (fun x => x.2.1 == 0)⟩
theorem z0e {s : Lts} (h : s.Right) {q : Int} (h0 : 0 <= q) (h1 : q < s.st) : (tauOf s q).Right := by
 have hr := h.st0
 refine ⟨?_, fun x hx => h.edges x (List.mem_filter.1 hx).1⟩
 unfold HeadBad tauOf
 have := List.length_filter_le (fun x : E => x.2.1 == 0) s.es
 simp only
 omega
theorem z0v {s : Lts} {q x : Int} {y : S} : y ∈ (tauOf s q).outs x ↔ y ∈ s.outs x /\ y.1 = 0 := by
 rw [j0j, j0j]
 unfold tauOf
 simp
end Pl
end Go.Proofs.YtjchdegapadepaaGreatDoor
namespace Go.Proofs.YtjchdegapadepaaGreatDoor
namespace Pl
def turnE (x : E) : E := (x.2.2, x.2.1, x.1)
def backS (s : Lts) : Lts := ⟨s.st, s.lb, s.s0, s.es.map turnE⟩
section
variable {s : Lts}
end
end Pl
end Go.Proofs.YtjchdegapadepaaGreatDoor
namespace Go.Proofs.YtjchdegapadepaaGreatDoor
namespace Pl
def wd (f : Nat -> Bool) : Nat -> Nat
  | 0 => 0
  | n + 1 => wd f n ||| (if f n then 2 ^ n else 0)
def wj (F : Nat -> Bool) (j : Nat) : Nat := wd (fun k => F (64 * j + k)) 64
def putF (F : Nat -> Bool) (i : Nat) (x : Nat) : Bool := F x || decide (x = i)
def dropF (F : Nat -> Bool) (i : Nat) (x : Nat) : Bool := F x && !decide (x = i)
def idsN (F : Nat -> Bool) (m : Nat) : List Nat := (List.range m).filter F
theorem mem_idsN {F : Nat -> Bool} {m x : Nat} : x ∈ idsN F m ↔ x < m /\ F x = true := by
 unfold idsN; simp
end Pl
end Go.Proofs.YtjchdegapadepaaGreatDoor
