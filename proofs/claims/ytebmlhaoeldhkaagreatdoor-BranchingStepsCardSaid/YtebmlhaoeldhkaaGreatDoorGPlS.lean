/-
 Lemmas.
-/
import Derived.Test.YtebmlhaoeldhkaaGreatDoorGPl3
namespace Go.Proofs.YtebmlhaoeldhkaaGreatDoor
namespace Pl
def stp (s : Lts) (p : Nat) (l : Int) (t : Nat) : Prop := ((p : Int), l, (t : Int)) ∈ s.es
def intoX (s : Lts) (n : Nat) (l : Int) (X : Nat -> Prop) (p : Nat) : Prop := ∃ t, t < n /\ X t /\ stp s p l t
def IsBis (s : Lts) (n : Nat) (R : Nat -> Nat -> Prop) : Prop := ∀ p q, p < n -> q < n -> R p q ->
 (∀ l t, t < n -> stp s p l t -> ∃ u, u < n /\ stp s q l u /\ R t u) /\ (∀ l u, u < n -> stp s q l u -> ∃ t, t < n /\ stp s p l t /\ R t u)
structure Big (s : Lts) (n : Nat) (C : Nat -> Int) : Prop where
 bis : IsBis s n (fun p q => C p = C q)
 all : ∀ R, IsBis s n R -> ∀ p q, p < n -> q < n -> R p q -> C p = C q
section
variable {s : Lts} {n : Nat}
theorem Big.same {C D : Nat -> Int} (h : Big s n C) (h' : Big s n D) {p q : Nat} (hp : p < n) (hq : q < n) : C p = C q ↔ D p = D q :=
 ⟨fun e => h'.all _ h.bis p q hp hq e, fun e => h.all _ h'.bis p q hp hq e⟩
theorem canon_same {C D : Nat -> Int} (h : ∀ p q, p < n -> q < n -> (C p = C q ↔ D p = D q)) : canon (fl n C) = canon (fl n D) := by
 rw [sameT_canon (by rw [fl_len, fl_len])]
 intro i k x y x' y' hki hx hy hx' hy'
 have hi : i < n := by have := (List.getElem?_eq_some_iff.1 hx).1; rwa [fl_len] at this
 have hk : k < n := by omega
 rw [fl_get C hi] at hx; rw [fl_get C hk] at hy; rw [fl_get D hi] at hx'; rw [fl_get D hk] at hy'
 cases hx; cases hy; cases hx'; cases hy'
 exact h i k hi hk
theorem Big.uniq {C D : Nat -> Int} (h : Big s n C) (h' : Big s n D) : canon (fl n C) = canon (fl n D) := canon_same (fun _ _ hp hq => h.same h' hp hq)
theorem Big.congr {C D : Nat -> Int} (h : Big s n C) (e : ∀ p q, p < n -> q < n -> (C p = C q ↔ D p = D q)) : Big s n D where
 bis p q hp hq hpq := by
   obtain ⟨h1, h2⟩ := h.bis p q hp hq ((e p q hp hq).2 hpq)
   refine ⟨fun l t ht hs => ?_, fun l u hu hs => ?_⟩
   · obtain ⟨u, hu, h3, h4⟩ := h1 l t ht hs
     exact ⟨u, hu, h3, (e t u ht hu).1 h4⟩
   · obtain ⟨t, ht, h3, h4⟩ := h2 l u hu hs
     exact ⟨t, ht, h3, (e t u ht hu).1 h4⟩
 all R hR p q hp hq h1 := (e p q hp hq).1 (h.all R hR p q hp hq h1)
theorem Big.clf {C : Nat -> Int} (h : Big s n C) : Big s n (clf n C) := h.congr (fun _ _ hp hq => (clf_eq hp hq).symm)
theorem Big.steps {s' : Lts} {C : Nat -> Int} (h : Big s n C) (e : ∀ p l t, p < n -> t < n -> (stp s p l t ↔ stp s' p l t)) : Big s' n C where
 bis p q hp hq hpq := by
   obtain ⟨h1, h2⟩ := h.bis p q hp hq hpq
   refine ⟨fun l t ht hs => ?_, fun l u hu hs => ?_⟩
   · obtain ⟨u, hu, h3, h4⟩ := h1 l t ht ((e p l t hp ht).2 hs)
     exact ⟨u, hu, (e q l u hq hu).1 h3, h4⟩
   · obtain ⟨t, ht, h3, h4⟩ := h2 l u hu ((e q l u hq hu).2 hs)
     exact ⟨t, ht, (e p l t hp ht).1 h3, h4⟩
 all R hR p q hp hq h1 := by
   refine h.all R (fun p q hp hq hpq => ?_) p q hp hq h1
   obtain ⟨h1, h2⟩ := hR p q hp hq hpq
   refine ⟨fun l t ht hs => ?_, fun l u hu hs => ?_⟩
   · obtain ⟨u, hu, h3, h4⟩ := h1 l t ht ((e p l t hp ht).1 hs)
     exact ⟨u, hu, (e q l u hq hu).2 h3, h4⟩
   · obtain ⟨t, ht, h3, h4⟩ := h2 l u hu ((e q l u hq hu).1 hs)
     exact ⟨t, ht, (e p l t hp ht).2 h3, h4⟩
def SplitBy (s : Lts) (n : Nat) (X : Nat -> Prop) (inn inn' : Nat -> Nat) : Prop :=
 ∀ p q, p < n -> q < n -> (inn' p = inn' q ↔ inn p = inn q /\ ∀ l, (intoX s n l X p ↔ intoX s n l X q))
structure Run (s : Lts) (n : Nat) (inn hp : Nat -> Nat) (H : Nat) : Prop where
 sub : ∀ p q, p < n -> q < n -> inn p = inn q -> hp p = hp q
 stab : ∀ p q, p < n -> q < n -> inn p = inn q -> ∀ l h, (intoX s n l (fun t => hp t = h) p ↔ intoX s n l (fun t => hp t = h) q)
 all : ∀ R, IsBis s n R -> ∀ p q, p < n -> q < n -> R p q -> inn p = inn q
 rng : ∀ p, p < n -> hp p < H
theorem bis_into {R : Nat -> Nat -> Prop} (hR : IsBis s n R) {X : Nat -> Prop} (hX : ∀ t u, t < n -> u < n -> R t u -> (X t ↔ X u)) {p q : Nat} (hp : p < n) (hq : q < n) (h : R p q) (l : Int) : intoX s n l X p ↔ intoX s n l X q := by
 obtain ⟨h1, h2⟩ := hR p q hp hq h
 constructor
 · rintro ⟨t, ht, hx, hs⟩
   obtain ⟨u, hu, h3, h4⟩ := h1 l t ht hs
   exact ⟨u, hu, (hX t u ht hu h4).1 hx, h3⟩
 · rintro ⟨u, hu, hx, hs⟩
   obtain ⟨t, ht, h3, h4⟩ := h2 l u hu hs
   exact ⟨t, ht, (hX t u ht hu h4).2 hx, h3⟩
theorem Run.take {inn hp inn1 inn2 : Nat -> Nat} {H b h : Nat} (hr : Run s n inn hp H) (hb : ∀ p, p < n -> inn p = b -> hp p = h) (h1 : SplitBy s n (fun t => inn t = b) inn inn1) (h2 : SplitBy s n (fun t => hp t = h /\ inn t ≠ b) inn1 inn2) :
   Run s n inn2 (fun p => if inn p = b then H else hp p) (H + 1) where
 sub p q hpn hqn e := by
   have e1 := ((h1 p q hpn hqn).1 ((h2 p q hpn hqn).1 e).1).1
   simp only [e1, hr.sub p q hpn hqn e1]
 stab p q hpn hqn e l k := by
   have a2 := (h2 p q hpn hqn).1 e
   have a1 := (h1 p q hpn hqn).1 a2.1
   have c1 := a1.2 l
   have c2 := a2.2 l
   have c0 := hr.stab p q hpn hqn a1.1 l k
   have key : ∀ p, intoX s n l (fun t => (if inn t = b then H else hp t) = k) p ↔ (if k = H then intoX s n l (fun t => inn t = b) p else if k = h then intoX s n l (fun t => hp t = h /\ inn t ≠ b) p else intoX s n l (fun t => hp t = k) p) := by
     intro p
     unfold intoX
     constructor
     · rintro ⟨t, ht, hx, hs⟩
       have hx : (if inn t = b then H else hp t) = k := hx
       have hlt := hr.rng t ht
       by_cases e : inn t = b
       · rw [if_pos e] at hx; rw [if_pos hx.symm]; exact ⟨t, ht, e, hs⟩
       · rw [if_neg e] at hx
         rw [if_neg (by omega)]
         by_cases e2 : k = h
         · rw [if_pos e2]; exact ⟨t, ht, ⟨by omega, e⟩, hs⟩
         · rw [if_neg e2]; exact ⟨t, ht, hx, hs⟩
     · intro hh
       by_cases e : k = H
       · rw [if_pos e] at hh
         obtain ⟨t, ht, hx, hs⟩ := hh
         exact ⟨t, ht, by show (if inn t = b then H else hp t) = k; rw [if_pos hx, e], hs⟩
       · rw [if_neg e] at hh
         by_cases e2 : k = h
         · rw [if_pos e2] at hh
           obtain ⟨t, ht, hx, hs⟩ := hh
           exact ⟨t, ht, by show (if inn t = b then H else hp t) = k; rw [if_neg hx.2, e2, hx.1], hs⟩
         · rw [if_neg e2] at hh
           obtain ⟨t, ht, hx, hs⟩ := hh
           have hx : hp t = k := hx
           exact ⟨t, ht, by show (if inn t = b then H else hp t) = k; rw [if_neg (fun e3 => by have := hb t ht e3; omega), hx], hs⟩
   rw [key, key]
   split
   · exact c1
   · split
     · exact c2
     · exact c0
 all R hR p q hpn hqn hpq := by
   have a0 := hr.all R hR
   have c1 : ∀ t u, t < n -> u < n -> R t u -> (inn t = b ↔ inn u = b) := fun t u ht hu h => by rw [a0 t u ht hu h]
   have c2 : ∀ t u, t < n -> u < n -> R t u -> ((hp t = h /\ inn t ≠ b) ↔ (hp u = h /\ inn u ≠ b)) := fun t u ht hu hh => by
     have e := a0 t u ht hu hh
     rw [e, hr.sub t u ht hu e]
   exact (h2 p q hpn hqn).2 ⟨(h1 p q hpn hqn).2 ⟨a0 p q hpn hqn hpq, fun l => bis_into hR c1 hpn hqn hpq l⟩, fun l => bis_into hR c2 hpn hqn hpq l⟩
 rng p hpn := by
   have := hr.rng p hpn
   show (if inn p = b then H else hp p) < H + 1
   split <;> omega
theorem Run.done {inn hp : Nat -> Nat} {H : Nat} (hr : Run s n inn hp H) (h : ∀ p q, p < n -> q < n -> hp p = hp q -> inn p = inn q) : Big s n (fun p => (inn p : Int)) where
 bis p q hpn hqn hpq := by
   have e : inn p = inn q := Int.ofNat.inj hpq
   have key : ∀ p q, p < n -> q < n -> inn p = inn q -> ∀ l t, t < n -> stp s p l t -> ∃ u, u < n /\ stp s q l u /\ inn t = inn u := fun p q hpn hqn e l t ht hs => by
     obtain ⟨u, hu, hx, hs2⟩ := (hr.stab p q hpn hqn e l (hp t)).1 ⟨t, ht, rfl, hs⟩
     exact ⟨u, hu, hs2, (h u t hu ht hx).symm⟩
   refine ⟨fun l t ht hs => ?_, fun l u hu hs => ?_⟩
   · obtain ⟨u, hu, h1, h2⟩ := key p q hpn hqn e l t ht hs
     exact ⟨u, hu, h1, congrArg Int.ofNat h2⟩
   · obtain ⟨t, ht, h1, h2⟩ := key q p hqn hpn e.symm l u hu hs
     exact ⟨t, ht, h1, congrArg Int.ofNat h2.symm⟩
 all R hR p q hpn hqn hpq := by rw [hr.all R hR p q hpn hqn hpq]
def memN (n : Nat) (f : Nat -> Nat) (b : Nat) : List Nat := (List.range n).filter (fun e => decide (f e = b))
theorem mem_memN {f : Nat -> Nat} {b e : Nat} : e ∈ memN n f b ↔ e < n /\ f e = b := by simp [memN]
theorem memN_nodup (f : Nat -> Nat) (b : Nat) : (memN n f b).Nodup := List.Pairwise.filter _ List.nodup_range
theorem nodup_le {l m : List Nat} (h : l.Nodup) (hs : ∀ x ∈ l, x ∈ m) : l.length <= m.length := by
 induction l generalizing m with
 | nil => simp
 | cons x l ih =>
   obtain ⟨hx, hl⟩ := List.nodup_cons.1 h
   have hm : x ∈ m := hs x (by simp)
   have h1 := ih (m := m.erase x) hl (fun y hy => (List.mem_erase_of_ne (fun e => hx (by rw [<- e]; exact hy))).2 (hs y (by simp [hy])))
   rw [List.length_erase_of_mem hm] at h1
   have := List.length_pos_of_mem hm
   simp only [List.length_cons]; omega
def Gau (n : Nat) (hp ga : Nat -> Nat) : Prop := ∀ p, p < n -> 1 <= ga p /\ 2 ^ (ga p - 1) * (memN n hp (hp p)).length <= n
theorem Gau.take {inn hp ga : Nat -> Nat} {H b h : Nat} (hg : Gau n hp ga) (hr : ∀ p, p < n -> hp p < H) (hb : ∀ p, p < n -> inn p = b -> hp p = h) (hl : 2 * (memN n inn b).length <= (memN n hp h).length) :
   Gau n (fun p => if inn p = b then H else hp p) (fun p => if inn p = b then ga p + 1 else ga p) := by
 intro p hpn
 obtain ⟨h1, h2⟩ := hg p hpn
 by_cases e : inn p = b
 · simp only [if_pos e]
   refine ⟨by omega, ?_⟩
   have hle : (memN n (fun p => if inn p = b then H else hp p) H).length <= (memN n inn b).length := nodup_le (memN_nodup _ _) (fun x hx => by
     obtain ⟨hx1, hx2⟩ := mem_memN.1 hx
     refine mem_memN.2 ⟨hx1, ?_⟩
     by_cases e2 : inn x = b
     · exact e2
     · have hx2 : (if inn x = b then H else hp x) = H := hx2
       rw [if_neg e2] at hx2
       have := hr x hx1; omega)
   have e3 : ga p + 1 - 1 = (ga p - 1) + 1 := by omega
   rw [e3, Nat.pow_succ]
   rw [hb p hpn e] at h2
   calc 2 ^ (ga p - 1) * 2 * (memN n (fun p => if inn p = b then H else hp p) H).length <= 2 ^ (ga p - 1) * 2 * (memN n inn b).length := Nat.mul_le_mul_left _ hle
     _ = 2 ^ (ga p - 1) * (2 * (memN n inn b).length) := by rw [Nat.mul_assoc]
     _ <= 2 ^ (ga p - 1) * (memN n hp h).length := Nat.mul_le_mul_left _ hl
     _ <= n := h2
 · simp only [if_neg e]
   refine ⟨h1, ?_⟩
   have hle : (memN n (fun p => if inn p = b then H else hp p) (hp p)).length <= (memN n hp (hp p)).length := nodup_le (memN_nodup _ _) (fun x hx => by
     obtain ⟨hx1, hx2⟩ := mem_memN.1 hx
     refine mem_memN.2 ⟨hx1, ?_⟩
     have hx2 : (if inn x = b then H else hp x) = hp p := hx2
     by_cases e2 : inn x = b
     · rw [if_pos e2] at hx2
       have := hr p hpn; omega
     · rw [if_neg e2] at hx2; exact hx2)
   exact Nat.le_trans (Nat.mul_le_mul_left _ hle) h2
theorem half {inn hp : Nat -> Nat} {b c h : Nat} (hb : ∀ p, p < n -> inn p = b -> hp p = h) (hc : ∀ p, p < n -> inn p = c -> hp p = h) (hbc : b ≠ c) (hl : (memN n inn b).length <= (memN n inn c).length) : 2 * (memN n inn b).length <= (memN n hp h).length := by
 have h1 := nodup_le (l := memN n inn b ++ memN n inn c) (m := memN n hp h) (List.nodup_append.2 ⟨memN_nodup _ _, memN_nodup _ _, fun x hx y hy e => by
   have e1 := (mem_memN.1 hx).2
   have e2 := (mem_memN.1 hy).2
   subst e; omega⟩) (fun x hx => by
   rcases List.mem_append.1 hx with hx | hx
   · obtain ⟨a1, a2⟩ := mem_memN.1 hx
     exact mem_memN.2 ⟨a1, hb x a1 a2⟩
   · obtain ⟨a1, a2⟩ := mem_memN.1 hx
     exact mem_memN.2 ⟨a1, hc x a1 a2⟩)
 rw [List.length_append] at h1
 omega
end
end Pl
end Go.Proofs.YtebmlhaoeldhkaaGreatDoor
namespace Go.Proofs.YtebmlhaoeldhkaaGreatDoor
namespace Pl
section
variable {s : Lts} {n : Nat}
def MetP (s : Lts) (n : Nat) (C : Nat -> Int) (p q : Nat) : Prop := ∀ l t, t < n -> stp s p l t -> ∃ u, u < n /\ stp s q l u /\ C u = C t
theorem Big.met {C : Nat -> Int} (h : Big s n C) {p q : Nat} (hp : p < n) (hq : q < n) (e : C p = C q) : MetP s n C p q := fun l t ht hs => by
 obtain ⟨u, hu, h1, h2⟩ := (h.bis p q hp hq e).1 l t ht hs
 exact ⟨u, hu, h1, h2.symm⟩
theorem Big.join {C : Nat -> Int} (h : Big s n C) {p q : Nat} (hp : p < n) (hq : q < n) (h1 : MetP s n C p q) (h2 : MetP s n C q p) : C p = C q := by
 have key : ∀ p q, p < n -> q < n -> MetP s n C p q -> ∀ a b, a < n -> b < n -> C a = C p -> C b = C q -> ∀ l t, t < n -> stp s a l t -> ∃ u, u < n /\ stp s b l u /\ C t = C u := by
   intro p q hp hq hm a b ha hb ea eb l t ht hs
   obtain ⟨t', ht', s1, e1⟩ := (h.bis a p ha hp ea).1 l t ht hs
   obtain ⟨u', hu', s2, e2⟩ := hm l t' ht' s1
   obtain ⟨u, hu, s3, e3⟩ := (h.bis q b hq hb eb.symm).1 l u' hu' s2
   exact ⟨u, hu, s3, by rw [e1, <- e2, e3]⟩
 refine h.all (fun a b => C a = C b ∨ (C a = C p /\ C b = C q) ∨ (C a = C q /\ C b = C p)) (fun a b ha hb hab => ?_) p q hp hq (.inr (.inl ⟨rfl, rfl⟩))
 rcases hab with e | ⟨e1, e2⟩ | ⟨e1, e2⟩
 · obtain ⟨c1, c2⟩ := h.bis a b ha hb e
   refine ⟨fun l t ht hs => ?_, fun l u hu hs => ?_⟩
   · obtain ⟨u, hu, s1, e1⟩ := c1 l t ht hs
     exact ⟨u, hu, s1, .inl e1⟩
   · obtain ⟨t, ht, s1, e1⟩ := c2 l u hu hs
     exact ⟨t, ht, s1, .inl e1⟩
 · refine ⟨fun l t ht hs => ?_, fun l u hu hs => ?_⟩
   · obtain ⟨u, hu, s1, e3⟩ := key p q hp hq h1 a b ha hb e1 e2 l t ht hs
     exact ⟨u, hu, s1, .inl e3⟩
   · obtain ⟨t, ht, s1, e3⟩ := key q p hq hp h2 b a hb ha e2 e1 l u hu hs
     exact ⟨t, ht, s1, .inl e3.symm⟩
 · refine ⟨fun l t ht hs => ?_, fun l u hu hs => ?_⟩
   · obtain ⟨u, hu, s1, e3⟩ := key q p hq hp h2 a b ha hb e1 e2 l t ht hs
     exact ⟨u, hu, s1, .inl e3⟩
   · obtain ⟨t, ht, s1, e3⟩ := key p q hp hq h1 b a hb ha e2 e1 l u hu hs
     exact ⟨t, ht, s1, .inl e3.symm⟩
theorem Big.iso {t : Lts} {C D : Nat -> Int} {f g : Nat -> Nat} (h : Big s n C) (h' : Big t n D) (hf : ∀ p, p < n -> f p < n /\ g (f p) = p) (hg : ∀ p, p < n -> g p < n /\ f (g p) = p)
   (he : ∀ p l u, p < n -> u < n -> (stp s p l u ↔ stp t (f p) l (f u))) {p q : Nat} (hp : p < n) (hq : q < n) : C p = C q ↔ D (f p) = D (f q) := by
 have he' : ∀ p l u, p < n -> u < n -> (stp t p l u ↔ stp s (g p) l (g u)) := fun p l u hp hu => by
   rw [he _ l _ (hg p hp).1 (hg u hu).1, (hg p hp).2, (hg u hu).2]
 constructor
 · intro e
   refine h'.all (fun a b => C (g a) = C (g b)) (fun a b ha hb hab => ?_) (f p) (f q) (hf p hp).1 (hf q hq).1 (by rw [(hf p hp).2, (hf q hq).2]; exact e)
   obtain ⟨c1, c2⟩ := h.bis (g a) (g b) (hg a ha).1 (hg b hb).1 hab
   refine ⟨fun l x hx hs => ?_, fun l x hx hs => ?_⟩
   · obtain ⟨u, hu, s1, e1⟩ := c1 l (g x) (hg x hx).1 ((he' a l x ha hx).1 hs)
     exact ⟨f u, (hf u hu).1, (he' b l _ hb (hf u hu).1).2 (by rw [(hf u hu).2]; exact s1), (by show C _ = C _; rw [(hf u hu).2]; exact e1)⟩
   · obtain ⟨u, hu, s1, e1⟩ := c2 l (g x) (hg x hx).1 ((he' b l x hb hx).1 hs)
     exact ⟨f u, (hf u hu).1, (he' a l _ ha (hf u hu).1).2 (by rw [(hf u hu).2]; exact s1), (by show C _ = C _; rw [(hf u hu).2]; exact e1)⟩
 · intro e
   refine h.all (fun a b => D (f a) = D (f b)) (fun a b ha hb hab => ?_) p q hp hq e
   obtain ⟨c1, c2⟩ := h'.bis (f a) (f b) (hf a ha).1 (hf b hb).1 hab
   refine ⟨fun l x hx hs => ?_, fun l x hx hs => ?_⟩
   · obtain ⟨u, hu, s1, e1⟩ := c1 l (f x) (hf x hx).1 ((he a l x ha hx).1 hs)
     exact ⟨g u, (hg u hu).1, (he b l _ hb (hg u hu).1).2 (by rw [(hg u hu).2]; exact s1), (by show D _ = D _; rw [(hg u hu).2]; exact e1)⟩
   · obtain ⟨u, hu, s1, e1⟩ := c2 l (f x) (hf x hx).1 ((he b l x hb hx).1 hs)
     exact ⟨g u, (hg u hu).1, (he a l _ ha (hg u hu).1).2 (by rw [(hg u hu).2]; exact s1), (by show D _ = D _; rw [(hg u hu).2]; exact e1)⟩
def smallB (b h : Int) : Bool := !(decide (b = 0)) && !(decide (b = h)) && decide (b <= h - b)
inductive Played (s : Lts) (n : Nat) (T : List (List Int)) : Nat -> (Nat -> Nat) -> (Nat -> Nat) -> Nat -> Prop where
 | first {inn inn' hp : Nat -> Nat} (hn : 0 < n) (hT : T[0]? = some ((List.range n).map Int.ofNat)) (h0 : ∀ p q, p < n -> q < n -> inn p = inn q) (h : SplitBy s n (fun _ => True) inn inn') (he : ∀ q, q < n -> hp q = 0) : Played s n T 1 inn' hp 1
 | next {k : Nat} {inn hp inn1 inn2 hp2 : Nat -> Nat} {H p : Nat} (h : Played s n T k inn hp H) (hpn : p < n) (hT : T[k]? = some ((memN n inn (inn p)).map Int.ofNat)) (hs : smallB (memN n inn (inn p)).length (memN n hp (hp p)).length = true)
     (h1 : SplitBy s n (fun t => inn t = inn p) inn inn1) (h2 : SplitBy s n (fun t => hp t = hp p /\ inn t ≠ inn p) inn1 inn2) (he : ∀ q, q < n -> hp2 q = if inn q = inn p then H else hp q) : Played s n T (k + 1) inn2 hp2 (H + 1)
def MayB (n : Nat) (inn hp : Nat -> Nat) (l : List Int) : Prop := ∃ p, p < n /\ l = (memN n inn (inn p)).map Int.ofNat /\ smallB (memN n inn (inn p)).length (memN n hp (hp p)).length = true
def PlayBad (s : Lts) (n : Nat) (T : List (List Int)) : Prop :=
 n = 0 ∨ T[0]? ≠ some ((List.range n).map Int.ofNat) ∨ (∃ (k : Nat) (inn hp : Nat -> Nat) (H : Nat) (L : List Int), Played s n T k inn hp H /\ T[k]? = some L /\ ¬ MayB n inn hp L) ∨
 ∃ (inn hp : Nat -> Nat) (H p q : Nat), Played s n T T.length inn hp H /\ p < n /\ q < n /\ hp p = hp q /\ inn p ≠ inn q
end
end Pl
end Go.Proofs.YtebmlhaoeldhkaaGreatDoor
namespace Go.Proofs.YtebmlhaoeldhkaaGreatDoor
namespace Pl
def atL (c : List Int) (x : Int) : Int := c.getD x.toNat 0
def colE (c : List Int) (es : List E) : List E := (es.map (fun x => (atL c x.1, x.2.1, atL c x.2.2))).filter (fun y => !(decide (y.2.1 = 0) && decide (y.1 = y.2.2)))
def col (s : Lts) (c : List Int) : Lts := ⟨((dist c).length : Int), s.lb, if s.st = 0 then 0 else atL c s.s0, nf ltE (colE c s.es)⟩
theorem mem_colE {c : List Int} {es : List E} {y : E} : y ∈ colE c es ↔ ∃ x ∈ es, y = (atL c x.1, x.2.1, atL c x.2.2) /\ ¬ (y.2.1 = 0 /\ y.1 = y.2.2) := by
 unfold colE
 rw [List.mem_filter, List.mem_map]
 constructor
 · rintro ⟨⟨x, hx, rfl⟩, h⟩
   refine ⟨x, hx, rfl, fun ⟨h1, h2⟩ => ?_⟩
   have h1' : x.2.1 = 0 := h1
   have h2' : atL c x.1 = atL c x.2.2 := h2
   simp [h1', h2'] at h
 · rintro ⟨x, hx, rfl, h⟩
   refine ⟨⟨x, hx, rfl⟩, ?_⟩
   by_cases h1 : x.2.1 = 0
   · have h2 : ¬ atL c x.1 = atL c x.2.2 := fun e => h ⟨h1, e⟩
     simp [h2]
   · simp [h1]
theorem colE_len (c : List Int) (es : List E) : (colE c es).length <= es.length := by
 unfold colE
 have := List.length_filter_le (fun y : E => !(decide (y.2.1 = 0) && decide (y.1 = y.2.2))) (es.map (fun x => (atL c x.1, x.2.1, atL c x.2.2)))
 rw [List.length_map] at this
 exact this
theorem col_srt (s : Lts) (c : List Int) : Srt ltE (col s c).es := srt_nf stoE _
theorem atL_fl {n : Nat} {f : Nat -> Int} {x : Int} (h0 : 0 <= x) (h : x < (n : Int)) : atL (fl n f) x = f x.toNat := by
 unfold atL
 have : (fl n f)[x.toNat]? = some (f x.toNat) := fl_get f (by omega)
 rw [List.getD_eq_getElem?_getD, this]; rfl
section
variable {s : Lts} {n : Nat} {f : Nat -> Int}
theorem dist_clf (n : Nat) (f : Nat -> Int) : dist (fl n (clf n f)) = (List.range (dist (fl n f)).length).map Int.ofNat := by
 rw [<- canon_fl, canon_dist]
theorem dist_clf_len (n : Nat) (f : Nat -> Int) : (dist (fl n (clf n f))).length = (dist (fl n f)).length := by rw [dist_clf]; simp
theorem dist_le (n : Nat) (f : Nat -> Int) : (dist (fl n f)).length <= n := by have := dist_len (fl n f); rw [fl_len] at this; exact this
theorem col_right (hr : s.Right) (hn : s.st = (n : Int)) : (col s (fl n (clf n f))).Right := by
 have h0 := hr.st0
 have hd := dist_le n f
 have hdl := dist_clf_len n f
 have hat : ∀ x : Int, 0 <= x -> x < (n : Int) -> 0 <= atL (fl n (clf n f)) x /\ atL (fl n (clf n f)) x < ((dist (fl n f)).length : Int) := by
   intro x h1 h2
   rw [atL_fl h1 h2]
   exact clf_rng (by omega)
 refine ⟨?_, fun y hy => ?_⟩
 · have h2 := colE_len (fl n (clf n f)) s.es
   have h3 := length_nf (lt := ltE) (colE (fl n (clf n f)) s.es)
   have h4 : 0 <= (col s (fl n (clf n f))).s0 /\ ((col s (fl n (clf n f))).s0 = 0 ∨ (col s (fl n (clf n f))).s0 < ((dist (fl n f)).length : Int)) := by
     simp only [col]
     split
     · omega
     · rename_i hne
       have := hat s.s0 (by omega) (by omega)
       omega
   unfold HeadBad
   simp only [col] at *
   omega
 · obtain ⟨x, hx, rfl, _⟩ := mem_colE.1 ((mem_nf stoE y _).1 hy)
   have h1 := offB_false.1 (hr.edges x hx)
   have h2 := hat x.1 (by omega) (by omega)
   have h3 := hat x.2.2 (by omega) (by omega)
   rw [offB_false]
   simp only [col]
   omega
theorem tau_col (hr : s.Right) (hn : s.st = (n : Int)) {X Y : Nat} (h : tau (col s (fl n (clf n f))) X Y) : X ≠ Y /\ ∃ x y, x < n /\ y < n /\ tau s x y /\ clf n f x = (X : Int) /\ clf n f y = (Y : Int) := by
 obtain ⟨e, he, heq, hne⟩ := mem_colE.1 ((mem_nf stoE _ _).1 h)
 have h1 := offB_false.1 (hr.edges e he)
 simp only [Prod.mk.injEq] at heq
 obtain ⟨q1, q2, q3⟩ := heq
 rw [atL_fl (by omega) (by omega)] at q1 q3
 refine ⟨fun e2 => hne ⟨rfl, by rw [e2]⟩, e.1.toNat, e.2.2.toNat, by omega, by omega, ?_, q1.symm, q3.symm⟩
 unfold tau
 rw [show ((e.1.toNat : Nat) : Int) = e.1 by omega, show ((e.2.2.toNat : Nat) : Int) = e.2.2 by omega, q2]
 exact he
noncomputable def rank (n : Nat) (f : Nat -> Int) (X : Nat) : Int := (dist (fl n f)).getD X 0
theorem rank_of {n : Nat} {f : Nat -> Int} {x X : Nat} (hx : x < n) (h : clf n f x = (X : Int)) : rank n f X = f x := by
 have hm : f x ∈ dist (fl n f) := (mem_dist _).2 (List.mem_of_getElem? (fl_get f hx))
 have h1 := List.idxOf_lt_length_of_mem hm
 have h2 : (dist (fl n f))[(dist (fl n f)).idxOf (f x)] = f x := List.getElem_idxOf h1
 unfold clf at h
 have hX : (dist (fl n f)).idxOf (f x) = X := by omega
 unfold rank
 subst hX
 rw [List.getD_eq_getElem?_getD, List.getElem?_eq_getElem h1, Option.getD_some, h2]
theorem rank_down (hr : s.Right) (hn : s.st = (n : Int)) (hc : Cyc s n f) {X Y : Nat} (h : tau (col s (fl n (clf n f))) X Y) : rank n f Y < rank n f X := by
 obtain ⟨hne, x, y, hx, hy, hxy, h1, h2⟩ := tau_col hr hn h
 rw [rank_of hx h1, rank_of hy h2]
 have h3 := hc.down x y hxy
 have h4 : f x ≠ f y := fun e => hne (by have := (clf_eq hx hy).2 e; omega)
 omega
theorem rank_TR (hr : s.Right) (hn : s.st = (n : Int)) (hc : Cyc s n f) {X Y : Nat} (h : TR (col s (fl n (clf n f))) X Y) : X = Y ∨ rank n f Y < rank n f X := by
 induction h with
 | refl => exact .inl rfl
 | tail _ ht ih =>
   have := rank_down hr hn hc ht
   rcases ih with rfl | h
   · exact .inr this
   · exact .inr (by omega)
theorem col_apart (hr : s.Right) (hn : s.st = (n : Int)) (hc : Cyc s n f) {m : Nat} {g : Nat -> Int} (hg : Cyc (col s (fl n (clf n f))) m g) : canon (fl m g) = (List.range m).map Int.ofNat := by
 apply canon_inj
 intro X Y hX hY h
 obtain ⟨h1, h2⟩ := (hg.same X Y hX hY).1 h
 rcases rank_TR hr hn hc h1 with h3 | h3
 · exact h3
 · rcases rank_TR hr hn hc h2 with h4 | h4
   · exact h4.symm
   · omega
theorem col_col (hr : s.Right) (hn : s.st = (n : Int)) : col (col s (fl n (clf n f))) ((List.range (dist (fl n f)).length).map Int.ofNat) = col s (fl n (clf n f)) := by
 obtain ⟨m, hm⟩ : ∃ m, m = (dist (fl n f)).length := ⟨_, rfl⟩
 obtain ⟨t, ht⟩ : ∃ t, t = col s (fl n (clf n f)) := ⟨_, rfl⟩
 have htr : t.Right := by rw [ht]; exact col_right hr hn
 have hst : t.st = (m : Int) := by rw [ht, hm]; show ((dist (fl n (clf n f))).length : Int) = _; rw [dist_clf_len]
 have hes : Srt ltE t.es := by rw [ht]; exact col_srt s _
 have hne : ∀ y ∈ t.es, ¬ (y.2.1 = 0 /\ y.1 = y.2.2) := by
   intro y hy
   rw [ht] at hy
   obtain ⟨x, _, _, h⟩ := mem_colE.1 ((mem_nf stoE _ _).1 hy)
   exact h
 have hs0 : t.st = 0 -> t.s0 = 0 := fun h => by
   have := htr.st0; omega
 have hat : ∀ x : Int, 0 <= x -> x < (m : Int) -> atL ((List.range m).map Int.ofNat) x = x := by
   intro x h1 h2
   unfold atL
   have : ((List.range m).map Int.ofNat)[x.toNat]? = some x := by
     have h3 : x.toNat < m := by omega
     simp [h3]; omega
   rw [List.getD_eq_getElem?_getD, this]; rfl
 rw [<- hm, <- ht]
 have h1 : ((dist ((List.range m).map Int.ofNat)).length : Int) = t.st := by rw [dist_ofNat, hst]; simp
 have h2 : (if t.st = 0 then 0 else atL ((List.range m).map Int.ofNat) t.s0) = t.s0 := by
   split
   · rename_i h; exact (hs0 h).symm
   · have := htr.st0; exact hat _ (by omega) (by omega)
 have h3 : nf ltE (colE ((List.range m).map Int.ofNat) t.es) = t.es := by
   symm
   apply eq_nf stoE hes
   intro y
   rw [mem_colE]
   constructor
   · intro hy
     have := offB_false.1 (htr.edges y hy)
     refine ⟨y, hy, ?_, hne y hy⟩
     rw [hat _ (by omega) (by omega), hat _ (by omega) (by omega)]
   · rintro ⟨x, hx, rfl, _⟩
     have := offB_false.1 (htr.edges x hx)
     rw [hat _ (by omega) (by omega), hat _ (by omega) (by omega)]
     exact hx
 show Lts.mk _ _ _ _ = t
 rw [h1, h2, h3]
end
end Pl
end Go.Proofs.YtebmlhaoeldhkaaGreatDoor
