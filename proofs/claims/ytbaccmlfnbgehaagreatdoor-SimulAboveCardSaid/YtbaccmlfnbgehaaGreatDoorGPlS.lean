/-
  Lemmas.
-/
import Derived.Test.YtbaccmlfnbgehaaGreatDoorGPl4
import Derived.Test.YtbaccmlfnbgehaaGreatDoorGPl1
namespace Go.Proofs.YtbaccmlfnbgehaaGreatDoor
namespace Pl
def stp (s : Lts) (p : Nat) (l : Int) (t : Nat) : Prop := ((p : Int), l, (t : Int)) ∈ s.es
def intoX (s : Lts) (n : Nat) (l : Int) (X : Nat → Prop) (p : Nat) : Prop := ∃ t, t < n ∧ X t ∧ stp s p l t
def IsBis (s : Lts) (n : Nat) (R : Nat → Nat → Prop) : Prop := ∀ p q, p < n → q < n → R p q →
  (∀ l t, t < n → stp s p l t → ∃ u, u < n ∧ stp s q l u ∧ R t u) ∧ (∀ l u, u < n → stp s q l u → ∃ t, t < n ∧ stp s p l t ∧ R t u)
structure Big (s : Lts) (n : Nat) (C : Nat → Int) : Prop where
  bis : IsBis s n (fun p q => C p = C q)
  all : ∀ R, IsBis s n R → ∀ p q, p < n → q < n → R p q → C p = C q
section
variable {s : Lts} {n : Nat}
theorem Big.same {C D : Nat → Int} (h : Big s n C) (h' : Big s n D) {p q : Nat} (hp : p < n) (hq : q < n) : C p = C q ↔ D p = D q :=
  ⟨fun e => h'.all _ h.bis p q hp hq e, fun e => h.all _ h'.bis p q hp hq e⟩
theorem canon_same {C D : Nat → Int} (h : ∀ p q, p < n → q < n → (C p = C q ↔ D p = D q)) : canon (fl n C) = canon (fl n D) := by
  rw [sameT_canon (by rw [fl_len, fl_len])]
  intro i k x y x' y' hki hx hy hx' hy'
  have hi : i < n := by have := (List.getElem?_eq_some_iff.1 hx).1; rwa [fl_len] at this
  have hk : k < n := by omega
  rw [fl_get C hi] at hx; rw [fl_get C hk] at hy; rw [fl_get D hi] at hx'; rw [fl_get D hk] at hy'
  cases hx; cases hy; cases hx'; cases hy'
  exact h i k hi hk
theorem Big.uniq {C D : Nat → Int} (h : Big s n C) (h' : Big s n D) : canon (fl n C) = canon (fl n D) := canon_same (fun _ _ hp hq => h.same h' hp hq)
theorem Big.congr {C D : Nat → Int} (h : Big s n C) (e : ∀ p q, p < n → q < n → (C p = C q ↔ D p = D q)) : Big s n D where
  bis p q hp hq hpq := by
    obtain ⟨h1, h2⟩ := h.bis p q hp hq ((e p q hp hq).2 hpq)
    refine ⟨fun l t ht hs => ?_, fun l u hu hs => ?_⟩
    · obtain ⟨u, hu, h3, h4⟩ := h1 l t ht hs
      exact ⟨u, hu, h3, (e t u ht hu).1 h4⟩
    · obtain ⟨t, ht, h3, h4⟩ := h2 l u hu hs
      exact ⟨t, ht, h3, (e t u ht hu).1 h4⟩
  all R hR p q hp hq h1 := (e p q hp hq).1 (h.all R hR p q hp hq h1)
theorem Big.clf {C : Nat → Int} (h : Big s n C) : Big s n (clf n C) := h.congr (fun _ _ hp hq => (clf_eq hp hq).symm)
theorem Big.steps {s' : Lts} {C : Nat → Int} (h : Big s n C) (e : ∀ p l t, p < n → t < n → (stp s p l t ↔ stp s' p l t)) : Big s' n C where
  bis p q hp hq hpq := by
    obtain ⟨h1, h2⟩ := h.bis p q hp hq hpq
    refine ⟨fun l t ht hs => ?_, fun l u hu hs => ?_⟩
    · obtain ⟨u, hu, h3, h4⟩ := h1 l t ht ((e p l t hp ht).2 hs)
      exact ⟨u, hu, (e q l u hq hu).1 h3, h4⟩
    · obtain ⟨t, ht, h3, h4⟩ := h2 l u hu ((e q l u hq hu).2 hs)
      exact ⟨t, ht, (e p l t hp ht).1 h3, h4⟩
  all R hR p q hp hq h1 := by
    refine h.all R (fun p q hp hq hpq => ?_) p q hp hq h1
    obtain ⟨h1, h2⟩ := hR p q hp hq hpq
    refine ⟨fun l t ht hs => ?_, fun l u hu hs => ?_⟩
    · obtain ⟨u, hu, h3, h4⟩ := h1 l t ht ((e p l t hp ht).1 hs)
      exact ⟨u, hu, (e q l u hq hu).2 h3, h4⟩
    · obtain ⟨t, ht, h3, h4⟩ := h2 l u hu ((e q l u hq hu).1 hs)
      exact ⟨t, ht, (e p l t hp ht).2 h3, h4⟩
def SplitBy (s : Lts) (n : Nat) (X : Nat → Prop) (inn inn' : Nat → Nat) : Prop :=
  ∀ p q, p < n → q < n → (inn' p = inn' q ↔ inn p = inn q ∧ ∀ l, (intoX s n l X p ↔ intoX s n l X q))
structure Run (s : Lts) (n : Nat) (inn hp : Nat → Nat) (H : Nat) : Prop where
  sub : ∀ p q, p < n → q < n → inn p = inn q → hp p = hp q
  stab : ∀ p q, p < n → q < n → inn p = inn q → ∀ l h, (intoX s n l (fun t => hp t = h) p ↔ intoX s n l (fun t => hp t = h) q)
  all : ∀ R, IsBis s n R → ∀ p q, p < n → q < n → R p q → inn p = inn q
  rng : ∀ p, p < n → hp p < H
theorem bis_into {R : Nat → Nat → Prop} (hR : IsBis s n R) {X : Nat → Prop} (hX : ∀ t u, t < n → u < n → R t u → (X t ↔ X u)) {p q : Nat} (hp : p < n) (hq : q < n) (h : R p q) (l : Int) : intoX s n l X p ↔ intoX s n l X q := by
  obtain ⟨h1, h2⟩ := hR p q hp hq h
  constructor
  · rintro ⟨t, ht, hx, hs⟩
    obtain ⟨u, hu, h3, h4⟩ := h1 l t ht hs
    exact ⟨u, hu, (hX t u ht hu h4).1 hx, h3⟩
  · rintro ⟨u, hu, hx, hs⟩
    obtain ⟨t, ht, h3, h4⟩ := h2 l u hu hs
    exact ⟨t, ht, (hX t u ht hu h4).2 hx, h3⟩
theorem Run.take {inn hp inn1 inn2 : Nat → Nat} {H b h : Nat} (hr : Run s n inn hp H) (hb : ∀ p, p < n → inn p = b → hp p = h) (h1 : SplitBy s n (fun t => inn t = b) inn inn1) (h2 : SplitBy s n (fun t => hp t = h ∧ inn t ≠ b) inn1 inn2) :
    Run s n inn2 (fun p => if inn p = b then H else hp p) (H + 1) where
  sub p q hpn hqn e := by
    have e1 := ((h1 p q hpn hqn).1 ((h2 p q hpn hqn).1 e).1).1
    simp only [e1, hr.sub p q hpn hqn e1]
  stab p q hpn hqn e l k := by
    have a2 := (h2 p q hpn hqn).1 e
    have a1 := (h1 p q hpn hqn).1 a2.1
    have c1 := a1.2 l
    have c2 := a2.2 l
    have c0 := hr.stab p q hpn hqn a1.1 l k
    have key : ∀ p, intoX s n l (fun t => (if inn t = b then H else hp t) = k) p ↔ (if k = H then intoX s n l (fun t => inn t = b) p else if k = h then intoX s n l (fun t => hp t = h ∧ inn t ≠ b) p else intoX s n l (fun t => hp t = k) p) := by
      intro p
      unfold intoX
      constructor
      · rintro ⟨t, ht, hx, hs⟩
        have hx : (if inn t = b then H else hp t) = k := hx
        have hlt := hr.rng t ht
        by_cases e : inn t = b
        · rw [if_pos e] at hx; rw [if_pos hx.symm]; exact ⟨t, ht, e, hs⟩
        · rw [if_neg e] at hx
          rw [if_neg (by omega)]
          by_cases e2 : k = h
          · rw [if_pos e2]; exact ⟨t, ht, ⟨by omega, e⟩, hs⟩
          · rw [if_neg e2]; exact ⟨t, ht, hx, hs⟩
      · intro hh
        by_cases e : k = H
        · rw [if_pos e] at hh
          obtain ⟨t, ht, hx, hs⟩ := hh
          exact ⟨t, ht, by show (if inn t = b then H else hp t) = k; rw [if_pos hx, e], hs⟩
        · rw [if_neg e] at hh
          by_cases e2 : k = h
          · rw [if_pos e2] at hh
            obtain ⟨t, ht, hx, hs⟩ := hh
            exact ⟨t, ht, by show (if inn t = b then H else hp t) = k; rw [if_neg hx.2, e2, hx.1], hs⟩
          · rw [if_neg e2] at hh
            obtain ⟨t, ht, hx, hs⟩ := hh
            have hx : hp t = k := hx
            exact ⟨t, ht, by show (if inn t = b then H else hp t) = k; rw [if_neg (fun e3 => by have := hb t ht e3; omega), hx], hs⟩
    rw [key, key]
    split
    · exact c1
    · split
      · exact c2
      · exact c0
  all R hR p q hpn hqn hpq := by
    have a0 := hr.all R hR
    have c1 : ∀ t u, t < n → u < n → R t u → (inn t = b ↔ inn u = b) := fun t u ht hu h => by rw [a0 t u ht hu h]
    have c2 : ∀ t u, t < n → u < n → R t u → ((hp t = h ∧ inn t ≠ b) ↔ (hp u = h ∧ inn u ≠ b)) := fun t u ht hu hh => by
      have e := a0 t u ht hu hh
      rw [e, hr.sub t u ht hu e]
    exact (h2 p q hpn hqn).2 ⟨(h1 p q hpn hqn).2 ⟨a0 p q hpn hqn hpq, fun l => bis_into hR c1 hpn hqn hpq l⟩, fun l => bis_into hR c2 hpn hqn hpq l⟩
  rng p hpn := by
    have := hr.rng p hpn
    show (if inn p = b then H else hp p) < H + 1
    split <;> omega
theorem Run.done {inn hp : Nat → Nat} {H : Nat} (hr : Run s n inn hp H) (h : ∀ p q, p < n → q < n → hp p = hp q → inn p = inn q) : Big s n (fun p => (inn p : Int)) where
  bis p q hpn hqn hpq := by
    have e : inn p = inn q := Int.ofNat.inj hpq
    have key : ∀ p q, p < n → q < n → inn p = inn q → ∀ l t, t < n → stp s p l t → ∃ u, u < n ∧ stp s q l u ∧ inn t = inn u := fun p q hpn hqn e l t ht hs => by
      obtain ⟨u, hu, hx, hs2⟩ := (hr.stab p q hpn hqn e l (hp t)).1 ⟨t, ht, rfl, hs⟩
      exact ⟨u, hu, hs2, (h u t hu ht hx).symm⟩
    refine ⟨fun l t ht hs => ?_, fun l u hu hs => ?_⟩
    · obtain ⟨u, hu, h1, h2⟩ := key p q hpn hqn e l t ht hs
      exact ⟨u, hu, h1, congrArg Int.ofNat h2⟩
    · obtain ⟨t, ht, h1, h2⟩ := key q p hqn hpn e.symm l u hu hs
      exact ⟨t, ht, h1, congrArg Int.ofNat h2.symm⟩
  all R hR p q hpn hqn hpq := by rw [hr.all R hR p q hpn hqn hpq]
def memN (n : Nat) (f : Nat → Nat) (b : Nat) : List Nat := (List.range n).filter (fun e => decide (f e = b))
theorem mem_memN {f : Nat → Nat} {b e : Nat} : e ∈ memN n f b ↔ e < n ∧ f e = b := by simp [memN]
theorem memN_nodup (f : Nat → Nat) (b : Nat) : (memN n f b).Nodup := List.Pairwise.filter _ List.nodup_range
theorem nodup_le {l m : List Nat} (h : l.Nodup) (hs : ∀ x ∈ l, x ∈ m) : l.length ≤ m.length := by
  induction l generalizing m with
  | nil => simp
  | cons x l ih =>
    obtain ⟨hx, hl⟩ := List.nodup_cons.1 h
    have hm : x ∈ m := hs x (by simp)
    have h1 := ih (m := m.erase x) hl (fun y hy => (List.mem_erase_of_ne (fun e => hx (by rw [← e]; exact hy))).2 (hs y (by simp [hy])))
    rw [List.length_erase_of_mem hm] at h1
    have := List.length_pos_of_mem hm
    simp only [List.length_cons]; omega
def Gau (n : Nat) (hp ga : Nat → Nat) : Prop := ∀ p, p < n → 1 ≤ ga p ∧ 2 ^ (ga p - 1) * (memN n hp (hp p)).length ≤ n
theorem Gau.take {inn hp ga : Nat → Nat} {H b h : Nat} (hg : Gau n hp ga) (hr : ∀ p, p < n → hp p < H) (hb : ∀ p, p < n → inn p = b → hp p = h) (hl : 2 * (memN n inn b).length ≤ (memN n hp h).length) :
    Gau n (fun p => if inn p = b then H else hp p) (fun p => if inn p = b then ga p + 1 else ga p) := by
  intro p hpn
  obtain ⟨h1, h2⟩ := hg p hpn
  by_cases e : inn p = b
  · simp only [if_pos e]
    refine ⟨by omega, ?_⟩
    have hle : (memN n (fun p => if inn p = b then H else hp p) H).length ≤ (memN n inn b).length := nodup_le (memN_nodup _ _) (fun x hx => by
      obtain ⟨hx1, hx2⟩ := mem_memN.1 hx
      refine mem_memN.2 ⟨hx1, ?_⟩
      by_cases e2 : inn x = b
      · exact e2
      · have hx2 : (if inn x = b then H else hp x) = H := hx2
        rw [if_neg e2] at hx2
        have := hr x hx1; omega)
    have e3 : ga p + 1 - 1 = (ga p - 1) + 1 := by omega
    rw [e3, Nat.pow_succ]
    rw [hb p hpn e] at h2
    calc 2 ^ (ga p - 1) * 2 * (memN n (fun p => if inn p = b then H else hp p) H).length ≤ 2 ^ (ga p - 1) * 2 * (memN n inn b).length := Nat.mul_le_mul_left _ hle
      _ = 2 ^ (ga p - 1) * (2 * (memN n inn b).length) := by rw [Nat.mul_assoc]
      _ ≤ 2 ^ (ga p - 1) * (memN n hp h).length := Nat.mul_le_mul_left _ hl
      _ ≤ n := h2
  · simp only [if_neg e]
    refine ⟨h1, ?_⟩
    have hle : (memN n (fun p => if inn p = b then H else hp p) (hp p)).length ≤ (memN n hp (hp p)).length := nodup_le (memN_nodup _ _) (fun x hx => by
      obtain ⟨hx1, hx2⟩ := mem_memN.1 hx
      refine mem_memN.2 ⟨hx1, ?_⟩
      have hx2 : (if inn x = b then H else hp x) = hp p := hx2
      by_cases e2 : inn x = b
      · rw [if_pos e2] at hx2
        have := hr p hpn; omega
      · rw [if_neg e2] at hx2; exact hx2)
    exact Nat.le_trans (Nat.mul_le_mul_left _ hle) h2
theorem half {inn hp : Nat → Nat} {b c h : Nat} (hb : ∀ p, p < n → inn p = b → hp p = h) (hc : ∀ p, p < n → inn p = c → hp p = h) (hbc : b ≠ c) (hl : (memN n inn b).length ≤ (memN n inn c).length) : 2 * (memN n inn b).length ≤ (memN n hp h).length := by
  have h1 := nodup_le (l := memN n inn b ++ memN n inn c) (m := memN n hp h) (List.nodup_append.2 ⟨memN_nodup _ _, memN_nodup _ _, fun x hx y hy e => by
    have e1 := (mem_memN.1 hx).2
    have e2 := (mem_memN.1 hy).2
    subst e; omega⟩) (fun x hx => by
    rcases List.mem_append.1 hx with hx | hx
    · obtain ⟨a1, a2⟩ := mem_memN.1 hx
      exact mem_memN.2 ⟨a1, hb x a1 a2⟩
    · obtain ⟨a1, a2⟩ := mem_memN.1 hx
      exact mem_memN.2 ⟨a1, hc x a1 a2⟩)
  rw [List.length_append] at h1
  omega
end
end Pl
end Go.Proofs.YtbaccmlfnbgehaaGreatDoor
namespace Go.Proofs.YtbaccmlfnbgehaaGreatDoor
namespace Pl
section
variable {s : Lts} {n : Nat}
def MetP (s : Lts) (n : Nat) (C : Nat → Int) (p q : Nat) : Prop := ∀ l t, t < n → stp s p l t → ∃ u, u < n ∧ stp s q l u ∧ C u = C t
theorem Big.met {C : Nat → Int} (h : Big s n C) {p q : Nat} (hp : p < n) (hq : q < n) (e : C p = C q) : MetP s n C p q := fun l t ht hs => by
  obtain ⟨u, hu, h1, h2⟩ := (h.bis p q hp hq e).1 l t ht hs
  exact ⟨u, hu, h1, h2.symm⟩
theorem Big.join {C : Nat → Int} (h : Big s n C) {p q : Nat} (hp : p < n) (hq : q < n) (h1 : MetP s n C p q) (h2 : MetP s n C q p) : C p = C q := by
  have key : ∀ p q, p < n → q < n → MetP s n C p q → ∀ a b, a < n → b < n → C a = C p → C b = C q → ∀ l t, t < n → stp s a l t → ∃ u, u < n ∧ stp s b l u ∧ C t = C u := by
    intro p q hp hq hm a b ha hb ea eb l t ht hs
    obtain ⟨t', ht', s1, e1⟩ := (h.bis a p ha hp ea).1 l t ht hs
    obtain ⟨u', hu', s2, e2⟩ := hm l t' ht' s1
    obtain ⟨u, hu, s3, e3⟩ := (h.bis q b hq hb eb.symm).1 l u' hu' s2
    exact ⟨u, hu, s3, by rw [e1, ← e2, e3]⟩
  refine h.all (fun a b => C a = C b ∨ (C a = C p ∧ C b = C q) ∨ (C a = C q ∧ C b = C p)) (fun a b ha hb hab => ?_) p q hp hq (.inr (.inl ⟨rfl, rfl⟩))
  rcases hab with e | ⟨e1, e2⟩ | ⟨e1, e2⟩
  · obtain ⟨c1, c2⟩ := h.bis a b ha hb e
    refine ⟨fun l t ht hs => ?_, fun l u hu hs => ?_⟩
    · obtain ⟨u, hu, s1, e1⟩ := c1 l t ht hs
      exact ⟨u, hu, s1, .inl e1⟩
    · obtain ⟨t, ht, s1, e1⟩ := c2 l u hu hs
      exact ⟨t, ht, s1, .inl e1⟩
  · refine ⟨fun l t ht hs => ?_, fun l u hu hs => ?_⟩
    · obtain ⟨u, hu, s1, e3⟩ := key p q hp hq h1 a b ha hb e1 e2 l t ht hs
      exact ⟨u, hu, s1, .inl e3⟩
    · obtain ⟨t, ht, s1, e3⟩ := key q p hq hp h2 b a hb ha e2 e1 l u hu hs
      exact ⟨t, ht, s1, .inl e3.symm⟩
  · refine ⟨fun l t ht hs => ?_, fun l u hu hs => ?_⟩
    · obtain ⟨u, hu, s1, e3⟩ := key q p hq hp h2 a b ha hb e1 e2 l t ht hs
      exact ⟨u, hu, s1, .inl e3⟩
    · obtain ⟨t, ht, s1, e3⟩ := key p q hp hq h1 b a hb ha e2 e1 l u hu hs
      exact ⟨t, ht, s1, .inl e3.symm⟩
theorem Big.iso {t : Lts} {C D : Nat → Int} {f g : Nat → Nat} (h : Big s n C) (h' : Big t n D) (hf : ∀ p, p < n → f p < n ∧ g (f p) = p) (hg : ∀ p, p < n → g p < n ∧ f (g p) = p)
    (he : ∀ p l u, p < n → u < n → (stp s p l u ↔ stp t (f p) l (f u))) {p q : Nat} (hp : p < n) (hq : q < n) : C p = C q ↔ D (f p) = D (f q) := by
  have he' : ∀ p l u, p < n → u < n → (stp t p l u ↔ stp s (g p) l (g u)) := fun p l u hp hu => by
    rw [he _ l _ (hg p hp).1 (hg u hu).1, (hg p hp).2, (hg u hu).2]
  constructor
  · intro e
    refine h'.all (fun a b => C (g a) = C (g b)) (fun a b ha hb hab => ?_) (f p) (f q) (hf p hp).1 (hf q hq).1 (by rw [(hf p hp).2, (hf q hq).2]; exact e)
    obtain ⟨c1, c2⟩ := h.bis (g a) (g b) (hg a ha).1 (hg b hb).1 hab
    refine ⟨fun l x hx hs => ?_, fun l x hx hs => ?_⟩
    · obtain ⟨u, hu, s1, e1⟩ := c1 l (g x) (hg x hx).1 ((he' a l x ha hx).1 hs)
      exact ⟨f u, (hf u hu).1, (he' b l _ hb (hf u hu).1).2 (by rw [(hf u hu).2]; exact s1), (by show C _ = C _; rw [(hf u hu).2]; exact e1)⟩
    · obtain ⟨u, hu, s1, e1⟩ := c2 l (g x) (hg x hx).1 ((he' b l x hb hx).1 hs)
      exact ⟨f u, (hf u hu).1, (he' a l _ ha (hf u hu).1).2 (by rw [(hf u hu).2]; exact s1), (by show C _ = C _; rw [(hf u hu).2]; exact e1)⟩
  · intro e
    refine h.all (fun a b => D (f a) = D (f b)) (fun a b ha hb hab => ?_) p q hp hq e
    obtain ⟨c1, c2⟩ := h'.bis (f a) (f b) (hf a ha).1 (hf b hb).1 hab
    refine ⟨fun l x hx hs => ?_, fun l x hx hs => ?_⟩
    · obtain ⟨u, hu, s1, e1⟩ := c1 l (f x) (hf x hx).1 ((he a l x ha hx).1 hs)
      exact ⟨g u, (hg u hu).1, (he b l _ hb (hg u hu).1).2 (by rw [(hg u hu).2]; exact s1), (by show D _ = D _; rw [(hg u hu).2]; exact e1)⟩
    · obtain ⟨u, hu, s1, e1⟩ := c2 l (f x) (hf x hx).1 ((he b l x hb hx).1 hs)
      exact ⟨g u, (hg u hu).1, (he a l _ ha (hg u hu).1).2 (by rw [(hg u hu).2]; exact s1), (by show D _ = D _; rw [(hg u hu).2]; exact e1)⟩
def smallB (b h : Int) : Bool := !(decide (b = 0)) && !(decide (b = h)) && decide (b ≤ h - b)
inductive Played (s : Lts) (n : Nat) (T : List (List Int)) : Nat → (Nat → Nat) → (Nat → Nat) → Nat → Prop where
  | first {inn inn' hp : Nat → Nat} (hn : 0 < n) (hT : T[0]? = some ((List.range n).map Int.ofNat)) (h0 : ∀ p q, p < n → q < n → inn p = inn q) (h : SplitBy s n (fun _ => True) inn inn') (he : ∀ q, q < n → hp q = 0) : Played s n T 1 inn' hp 1
  | next {k : Nat} {inn hp inn1 inn2 hp2 : Nat → Nat} {H p : Nat} (h : Played s n T k inn hp H) (hpn : p < n) (hT : T[k]? = some ((memN n inn (inn p)).map Int.ofNat)) (hs : smallB (memN n inn (inn p)).length (memN n hp (hp p)).length = true)
      (h1 : SplitBy s n (fun t => inn t = inn p) inn inn1) (h2 : SplitBy s n (fun t => hp t = hp p ∧ inn t ≠ inn p) inn1 inn2) (he : ∀ q, q < n → hp2 q = if inn q = inn p then H else hp q) : Played s n T (k + 1) inn2 hp2 (H + 1)
def MayB (n : Nat) (inn hp : Nat → Nat) (l : List Int) : Prop := ∃ p, p < n ∧ l = (memN n inn (inn p)).map Int.ofNat ∧ smallB (memN n inn (inn p)).length (memN n hp (hp p)).length = true
def PlayBad (s : Lts) (n : Nat) (T : List (List Int)) : Prop :=
  n = 0 ∨ T[0]? ≠ some ((List.range n).map Int.ofNat) ∨ (∃ (k : Nat) (inn hp : Nat → Nat) (H : Nat) (L : List Int), Played s n T k inn hp H ∧ T[k]? = some L ∧ ¬ MayB n inn hp L) ∨
  ∃ (inn hp : Nat → Nat) (H p q : Nat), Played s n T T.length inn hp H ∧ p < n ∧ q < n ∧ hp p = hp q ∧ inn p ≠ inn q
end
end Pl
end Go.Proofs.YtbaccmlfnbgehaaGreatDoor
namespace Go.Proofs.YtbaccmlfnbgehaaGreatDoor
namespace Pl
def tauOf (s : Lts) (q : Int) : Lts := ⟨s.st, s.lb, q, s.es.filter (fun x => x.2.1 == 0)⟩
end Pl
end Go.Proofs.YtbaccmlfnbgehaaGreatDoor
namespace Go.Proofs.YtbaccmlfnbgehaaGreatDoor
namespace Pl
abbrev B3 := Nat × Nat × Nat
structure PI (n : Nat) (el pl inn : Nat → Nat) (bl : List B3) : Prop where
  hel : ∀ i, i < n → el i < n ∧ pl (el i) = i
  hpl : ∀ e, e < n → pl e < n ∧ el (pl e) = e
  blk : ∀ (b : Nat) (x : B3), bl[b]? = some x → x.1 < x.2.1 ∧ x.2.1 ≤ n ∧ x.1 + x.2.2 ≤ x.2.1
  hin : ∀ e, e < n → ∃ x : B3, bl[inn e]? = some x ∧ x.1 ≤ pl e ∧ pl e < x.2.1
  cov : ∀ (b : Nat) (x : B3) (i : Nat), bl[b]? = some x → x.1 ≤ i → i < x.2.1 → inn (el i) = b
def Mkd (pl inn : Nat → Nat) (bl : List B3) (e : Nat) : Prop := ∃ x : B3, bl[inn e]? = some x ∧ pl e < x.1 + x.2.2
section
variable {n : Nat} {el pl inn : Nat → Nat} {bl : List B3}
theorem PI.lt (h : PI n el pl inn bl) {e : Nat} (he : e < n) : inn e < bl.length := by
  obtain ⟨x, hx, _⟩ := h.hin e he
  exact (List.getElem?_eq_some_iff.1 hx).1
def swE (el : Nat → Nat) (i k : Nat) : Nat → Nat := upd (upd el i (el k)) k (el i)
def swP (el pl : Nat → Nat) (i k : Nat) : Nat → Nat := upd (upd pl (el k) i) (el i) k
structure Spl (n : Nat) (pl inn inn' : Nat → Nat) (bl bl' : List B3) (b : Nat) : Prop where
  far : ∀ e, e < n → inn e ≠ b → inn' e = inn e
  near : ∀ e, e < n → inn e = b → inn' e = b ∨ inn' e = bl.length
  same : ∀ e f, e < n → f < n → inn e = b → inn f = b → (inn' e = inn' f ↔ (Mkd pl inn bl e ↔ Mkd pl inn bl f))
  mks : ∀ e, e < n → (Mkd pl inn' bl' e ↔ Mkd pl inn bl e ∧ inn e ≠ b)
  more : bl.length ≤ bl'.length
  else_ : ∀ c, c ≠ b → c < bl.length → bl'[c]? = bl[c]?
def newB (x : B3) : B3 := if x.2.2 ≤ x.2.1 - x.1 - x.2.2 then (x.1, x.1 + x.2.2, 0) else (x.1 + x.2.2, x.2.1, 0)
def oldB (x : B3) : B3 := if x.2.2 ≤ x.2.1 - x.1 - x.2.2 then (x.1 + x.2.2, x.2.1, 0) else (x.1, x.1 + x.2.2, 0)
theorem nodup_at {l : List Nat} (h : l.Nodup) {i j : Nat} {x : Nat} (hi : l[i]? = some x) (hj : l[j]? = some x) : i = j := by
  obtain ⟨hil, hi⟩ := List.getElem?_eq_some_iff.1 hi
  obtain ⟨hjl, hj⟩ := List.getElem?_eq_some_iff.1 hj
  have hp := List.pairwise_iff_getElem.1 h
  rcases Nat.lt_trichotomy i j with h1 | h1 | h1
  · exact absurd (hi.trans hj.symm) (hp i j hil hjl h1)
  · exact h1
  · exact absurd (hj.trans hi.symm) (hp j i hjl hil h1)
structure SI (n : Nat) (X : Nat → Prop) (inn0 pl inn : Nat → Nat) (bl : List B3) (ms : List Nat) (k : Nat) : Prop where
  same : ∀ p q, p < n → q < n → (inn p = inn q ↔ inn0 p = inn0 q ∧ (inn0 p ∈ ms.take k → (X p ↔ X q)))
  mks : ∀ p, p < n → (Mkd pl inn bl p ↔ X p ∧ inn0 p ∉ ms.take k)
  rest : ∀ j b, k ≤ j → ms[j]? = some b → b < bl.length ∧ ∀ p, p < n → (inn p = b ↔ inn0 p = b)
theorem SI.start {X : Nat → Prop} {ms : List Nat} (hX : ∀ p, p < n → (Mkd pl inn bl p ↔ X p)) (hms : ∀ b ∈ ms, b < bl.length) : SI n X inn pl inn bl ms 0 where
  same p q _ _ := by simp
  mks p hp := by simp [hX p hp]
  rest j b _ hb := ⟨hms b (List.mem_of_getElem? hb), fun _ _ => Iff.rfl⟩
theorem SI.step {X : Nat → Prop} {inn0 inn' : Nat → Nat} {bl' : List B3} {ms : List Nat} {k b : Nat} (h : SI n X inn0 pl inn bl ms k) (hP : PI n el pl inn bl) (hnd : ms.Nodup) (hb : ms[k]? = some b) (hs : Spl n pl inn inn' bl bl' b) : SI n X inn0 pl inn' bl' ms (k + 1) := by
  obtain ⟨hkl, hkb⟩ := List.getElem?_eq_some_iff.1 hb
  have htk : ∀ z, z ∈ ms.take (k + 1) ↔ z ∈ ms.take k ∨ z = b := fun z => by
    rw [List.take_succ_eq_append_getElem hkl, hkb]; simp
  have hnb : b ∉ ms.take k := fun hm => by
    obtain ⟨j, hj, e⟩ := List.getElem_of_mem hm
    rw [List.getElem_take] at e
    rw [List.length_take] at hj
    have := nodup_at hnd (i := j) (j := k) (x := b) (by rw [List.getElem?_eq_getElem (by omega), e]) hb
    omega
  have hrb := (h.rest k b (Nat.le_refl _) hb)
  have mk : ∀ p, p < n → inn0 p = b → (Mkd pl inn bl p ↔ X p) := fun p hp e => by
    rw [h.mks p hp, e]; simp [hnb]
  refine ⟨fun p q hp hq => ?_, fun p hp => ?_, fun j c hj hc => ?_⟩
  · rw [htk]
    by_cases e1 : inn0 p = b
    · have i1 := (hrb.2 p hp).2 e1
      by_cases e2 : inn0 q = b
      · have i2 := (hrb.2 q hq).2 e2
        rw [hs.same p q hp hq i1 i2, mk p hp e1, mk q hq e2]
        simp [e1, e2]
      · have i2 : inn q ≠ b := fun e => e2 ((hrb.2 q hq).1 e)
        rw [hs.far q hq i2]
        constructor
        · intro e
          rcases hs.near p hp i1 with e3 | e3
          · exact absurd (e.symm.trans e3) i2
          · have := hP.lt hq; omega
        · rintro ⟨e, _⟩; exact absurd (e.symm.trans e1) e2
    · have i1 : inn p ≠ b := fun e => e1 ((hrb.2 p hp).1 e)
      rw [hs.far p hp i1]
      by_cases e2 : inn0 q = b
      · have i2 := (hrb.2 q hq).2 e2
        constructor
        · intro e
          rcases hs.near q hq i2 with e3 | e3
          · exact absurd (e.trans e3) i1
          · have := hP.lt hp; omega
        · rintro ⟨e, _⟩; exact absurd (e.trans e2) e1
      · have i2 : inn q ≠ b := fun e => e2 ((hrb.2 q hq).1 e)
        rw [hs.far q hq i2, h.same p q hp hq]
        simp [e1]
  · rw [hs.mks p hp, h.mks p hp, htk, not_or]
    rw [show (inn p ≠ b) ↔ (inn0 p ≠ b) from not_congr (hrb.2 p hp)]
    exact and_assoc
  · obtain ⟨h1, h2⟩ := h.rest j c (by omega) hc
    have hcb : c ≠ b := fun e => by
      have := nodup_at hnd (i := j) (j := k) (x := b) (by rw [hc, e]) hb
      omega
    refine ⟨Nat.lt_of_lt_of_le h1 hs.more, fun p hp => ?_⟩
    rw [← h2 p hp]
    by_cases e1 : inn p = b
    · rcases hs.near p hp e1 with e2 | e2
      · rw [e1, e2]
      · constructor
        · intro e; omega
        · intro e; exact absurd (e.symm.trans e1) hcb
    · rw [hs.far p hp e1]
theorem SI.done {X : Nat → Prop} {inn0 : Nat → Nat} {ms : List Nat} (h : SI n X inn0 pl inn bl ms ms.length) (hX : ∀ p, p < n → X p → inn0 p ∈ ms) :
    (∀ p q, p < n → q < n → (inn p = inn q ↔ inn0 p = inn0 q ∧ (X p ↔ X q))) ∧ ∀ p, p < n → ¬ Mkd pl inn bl p := by
  have h1 := h.same; have h2 := h.mks
  rw [List.take_length] at h1 h2
  refine ⟨fun p q hp hq => ?_, fun p hp hm => ?_⟩
  · rw [h1 p q hp hq]
    constructor
    · rintro ⟨e, h3⟩
      refine ⟨e, ?_⟩
      by_cases hm : inn0 p ∈ ms
      · exact h3 hm
      · exact ⟨fun hx => absurd (hX p hp hx) hm, fun hx => absurd (by rw [e]; exact hX q hq hx) hm⟩
    · rintro ⟨e, h3⟩; exact ⟨e, fun _ => h3⟩
  · obtain ⟨a1, a2⟩ := (h2 p hp).1 hm
    exact a2 (hX p hp a1)
def mkB (bl : List B3) (k : Nat) : List Nat := (List.range k).filter (fun b => decide (∃ x, bl[b]? = some x ∧ 0 < x.2.2))
def elRow (el : Nat → Nat) (x : B3) : List Nat := (List.range' x.1 (x.2.1 - x.1)).map el
end
end Pl
end Go.Proofs.YtbaccmlfnbgehaaGreatDoor
