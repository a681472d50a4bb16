/-
  Lemmas.
-/
import Derived.Test.YtgikimbafakmcaaGreatDoorGPl1
namespace Go.Proofs.YtgikimbafakmcaaGreatDoor
namespace Pl
def stp (s : Lts) (p : Nat) (l : Int) (t : Nat) : Prop := ((p : Int), l, (t : Int)) ∈ s.es
def intoX (s : Lts) (n : Nat) (l : Int) (X : Nat -> Prop) (p : Nat) : Prop := ∃ t, t < n /\ X t /\ stp s p l t
def IsBis (s : Lts) (n : Nat) (R : Nat -> Nat -> Prop) : Prop := ∀ p q, p < n -> q < n -> R p q ->
  (∀ l t, t < n -> stp s p l t -> ∃ u, u < n /\ stp s q l u /\ R t u) /\ (∀ l u, u < n -> stp s q l u -> ∃ t, t < n /\ stp s p l t /\ R t u)
structure Big (s : Lts) (n : Nat) (C : Nat -> Int) : Prop where
  bis : IsBis s n (fun p q => C p = C q)
  all : ∀ R, IsBis s n R -> ∀ p q, p < n -> q < n -> R p q -> C p = C q
section
variable {s : Lts} {n : Nat}
theorem Big.same {C D : Nat -> Int} (h : Big s n C) (h' : Big s n D) {p q : Nat} (hp : p < n) (hq : q < n) : C p = C q ↔ D p = D q :=
  ⟨fun e => h'.all _ h.bis p q hp hq e, fun e => h.all _ h'.bis p q hp hq e⟩
theorem canon_same {C D : Nat -> Int} (h : ∀ p q, p < n -> q < n -> (C p = C q ↔ D p = D q)) : canon (fl n C) = canon (fl n D) := by
 rw [sameT_canon (by rw [fl_len, fl_len])]
 intro i k x y x' y' hki hx hy hx' hy'
 have hi : i < n := by have := (List.getElem?_eq_some_iff.1 hx).1; rwa [fl_len] at this
 have hk : k < n := by omega
 rw [fl_get C hi] at hx; rw [fl_get C hk] at hy; rw [fl_get D hi] at hx'; rw [fl_get D hk] at hy'
 cases hx; cases hy; cases hx'; cases hy'
 exact h i k hi hk
theorem Big.uniq {C D : Nat -> Int} (h : Big s n C) (h' : Big s n D) : canon (fl n C) = canon (fl n D) := canon_same (fun _ _ hp hq => h.same h' hp hq)
theorem Big.congr {C D : Nat -> Int} (h : Big s n C) (e : ∀ p q, p < n -> q < n -> (C p = C q ↔ D p = D q)) : Big s n D where
  bis p q hp hq hpq := by
    obtain ⟨h1, h2⟩ := h.bis p q hp hq ((e p q hp hq).2 hpq)
    refine ⟨fun l t ht hs => ?_, fun l u hu hs => ?_⟩
    · obtain ⟨u, hu, h3, h4⟩ := h1 l t ht hs
      exact ⟨u, hu, h3, (e t u ht hu).1 h4⟩
    · obtain ⟨t, ht, h3, h4⟩ := h2 l u hu hs
      exact ⟨t, ht, h3, (e t u ht hu).1 h4⟩
  all R hR p q hp hq h1 := (e p q hp hq).1 (h.all R hR p q hp hq h1)
theorem Big.clf {C : Nat -> Int} (h : Big s n C) : Big s n (clf n C) := h.congr (fun _ _ hp hq => (clf_eq hp hq).symm)
theorem Big.steps {s' : Lts} {C : Nat -> Int} (h : Big s n C) (e : ∀ p l t, p < n -> t < n -> (stp s p l t ↔ stp s' p l t)) : Big s' n C where
  bis p q hp hq hpq := by
    obtain ⟨h1, h2⟩ := h.bis p q hp hq hpq
    refine ⟨fun l t ht hs => ?_, fun l u hu hs => ?_⟩
    · obtain ⟨u, hu, h3, h4⟩ := h1 l t ht ((e p l t hp ht).2 hs)
      exact ⟨u, hu, (e q l u hq hu).1 h3, h4⟩
    · obtain ⟨t, ht, h3, h4⟩ := h2 l u hu ((e q l u hq hu).2 hs)
      exact ⟨t, ht, (e p l t hp ht).1 h3, h4⟩
  all R hR p q hp hq h1 := by
    refine h.all R (fun p q hp hq hpq => ?_) p q hp hq h1
    obtain ⟨h1, h2⟩ := hR p q hp hq hpq
    refine ⟨fun l t ht hs => ?_, fun l u hu hs => ?_⟩
    · obtain ⟨u, hu, h3, h4⟩ := h1 l t ht ((e p l t hp ht).1 hs)
      exact ⟨u, hu, (e q l u hq hu).2 h3, h4⟩
    · obtain ⟨t, ht, h3, h4⟩ := h2 l u hu ((e q l u hq hu).1 hs)
      exact ⟨t, ht, (e p l t hp ht).2 h3, h4⟩
def SplitBy (s : Lts) (n : Nat) (X : Nat -> Prop) (inn inn' : Nat -> Nat) : Prop :=
  ∀ p q, p < n -> q < n -> (inn' p = inn' q ↔ inn p = inn q /\ ∀ l, (intoX s n l X p ↔ intoX s n l X q))
structure Run (s : Lts) (n : Nat) (inn hp : Nat -> Nat) (H : Nat) : Prop where
  sub : ∀ p q, p < n -> q < n -> inn p = inn q -> hp p = hp q
  stab : ∀ p q, p < n -> q < n -> inn p = inn q -> ∀ l h, (intoX s n l (fun t => hp t = h) p ↔ intoX s n l (fun t => hp t = h) q)
  all : ∀ R, IsBis s n R -> ∀ p q, p < n -> q < n -> R p q -> inn p = inn q
  rng : ∀ p, p < n -> hp p < H
theorem bis_into {R : Nat -> Nat -> Prop} (hR : IsBis s n R) {X : Nat -> Prop} (hX : ∀ t u, t < n -> u < n -> R t u -> (X t ↔ X u)) {p q : Nat} (hp : p < n) (hq : q < n) (h : R p q) (l : Int) : intoX s n l X p ↔ intoX s n l X q := by
 obtain ⟨h1, h2⟩ := hR p q hp hq h
 constructor
 · rintro ⟨t, ht, hx, hs⟩
   obtain ⟨u, hu, h3, h4⟩ := h1 l t ht hs
   exact ⟨u, hu, (hX t u ht hu h4).1 hx, h3⟩
 · rintro ⟨u, hu, hx, hs⟩
   obtain ⟨t, ht, h3, h4⟩ := h2 l u hu hs
   exact ⟨t, ht, (hX t u ht hu h4).2 hx, h3⟩
theorem Run.begin {inn inn' : Nat -> Nat} (h0 : ∀ p q, p < n -> q < n -> inn p = inn q) (h : SplitBy s n (fun _ => True) inn inn') : Run s n inn' (fun _ => 0) 1 where
  sub _ _ _ _ _ := rfl
  stab p q hp hq e l k := by
    have h1 := ((h p q hp hq).1 e).2 l
    by_cases hk : k = 0
    · subst hk; simpa [intoX] using h1
    · have : ¬ (0 = k) := fun e => hk e.symm
      simp [intoX, this]
  all R hR p q hp hq hpq := (h p q hp hq).2 ⟨h0 p q hp hq, fun l => bis_into hR (fun _ _ _ _ _ => Iff.rfl) hp hq hpq l⟩
  rng _ _ := by omega
theorem Run.take {inn hp inn1 inn2 : Nat -> Nat} {H b h : Nat} (hr : Run s n inn hp H) (hb : ∀ p, p < n -> inn p = b -> hp p = h) (h1 : SplitBy s n (fun t => inn t = b) inn inn1) (h2 : SplitBy s n (fun t => hp t = h /\ inn t ≠ b) inn1 inn2) :
    Run s n inn2 (fun p => if inn p = b then H else hp p) (H + 1) where
  sub p q hpn hqn e := by
    have e1 := ((h1 p q hpn hqn).1 ((h2 p q hpn hqn).1 e).1).1
    simp only [e1, hr.sub p q hpn hqn e1]
  stab p q hpn hqn e l k := by
    have a2 := (h2 p q hpn hqn).1 e
    have a1 := (h1 p q hpn hqn).1 a2.1
    have c1 := a1.2 l
    have c2 := a2.2 l
    have c0 := hr.stab p q hpn hqn a1.1 l k
    have key : ∀ p, intoX s n l (fun t => (if inn t = b then H else hp t) = k) p ↔ (if k = H then intoX s n l (fun t => inn t = b) p else if k = h then intoX s n l (fun t => hp t = h /\ inn t ≠ b) p else intoX s n l (fun t => hp t = k) p) := by
      intro p
      unfold intoX
      constructor
      · rintro ⟨t, ht, hx, hs⟩
        have hx : (if inn t = b then H else hp t) = k := hx
        have hlt := hr.rng t ht
        by_cases e : inn t = b
        · rw [if_pos e] at hx; rw [if_pos hx.symm]; exact ⟨t, ht, e, hs⟩
        · rw [if_neg e] at hx
          rw [if_neg (by omega)]
          by_cases e2 : k = h
          · rw [if_pos e2]; exact ⟨t, ht, ⟨by omega, e⟩, hs⟩
          · rw [if_neg e2]; exact ⟨t, ht, hx, hs⟩
      · intro hh
        by_cases e : k = H
        · rw [if_pos e] at hh
          obtain ⟨t, ht, hx, hs⟩ := hh
          exact ⟨t, ht, by show (if inn t = b then H else hp t) = k; rw [if_pos hx, e], hs⟩
        · rw [if_neg e] at hh
          by_cases e2 : k = h
          · rw [if_pos e2] at hh
            obtain ⟨t, ht, hx, hs⟩ := hh
            exact ⟨t, ht, by show (if inn t = b then H else hp t) = k; rw [if_neg hx.2, e2, hx.1], hs⟩
          · rw [if_neg e2] at hh
            obtain ⟨t, ht, hx, hs⟩ := hh
            have hx : hp t = k := hx
            exact ⟨t, ht, by show (if inn t = b then H else hp t) = k; rw [if_neg (fun e3 => by have := hb t ht e3; omega), hx], hs⟩
    rw [key, key]
    split
    · exact c1
    · split
      · exact c2
      · exact c0
  all R hR p q hpn hqn hpq := by
    have a0 := hr.all R hR
    have c1 : ∀ t u, t < n -> u < n -> R t u -> (inn t = b ↔ inn u = b) := fun t u ht hu h => by rw [a0 t u ht hu h]
    have c2 : ∀ t u, t < n -> u < n -> R t u -> ((hp t = h /\ inn t ≠ b) ↔ (hp u = h /\ inn u ≠ b)) := fun t u ht hu hh => by
      have e := a0 t u ht hu hh
      rw [e, hr.sub t u ht hu e]
    exact (h2 p q hpn hqn).2 ⟨(h1 p q hpn hqn).2 ⟨a0 p q hpn hqn hpq, fun l => bis_into hR c1 hpn hqn hpq l⟩, fun l => bis_into hR c2 hpn hqn hpq l⟩
  rng p hpn := by
    have := hr.rng p hpn
    show (if inn p = b then H else hp p) < H + 1
    split <;> omega
theorem Run.done {inn hp : Nat -> Nat} {H : Nat} (hr : Run s n inn hp H) (h : ∀ p q, p < n -> q < n -> hp p = hp q -> inn p = inn q) : Big s n (fun p => (inn p : Int)) where
  bis p q hpn hqn hpq := by
    have e : inn p = inn q := Int.ofNat.inj hpq
    have key : ∀ p q, p < n -> q < n -> inn p = inn q -> ∀ l t, t < n -> stp s p l t -> ∃ u, u < n /\ stp s q l u /\ inn t = inn u := fun p q hpn hqn e l t ht hs => by
      obtain ⟨u, hu, hx, hs2⟩ := (hr.stab p q hpn hqn e l (hp t)).1 ⟨t, ht, rfl, hs⟩
      exact ⟨u, hu, hs2, (h u t hu ht hx).symm⟩
    refine ⟨fun l t ht hs => ?_, fun l u hu hs => ?_⟩
    · obtain ⟨u, hu, h1, h2⟩ := key p q hpn hqn e l t ht hs
      exact ⟨u, hu, h1, congrArg Int.ofNat h2⟩
    · obtain ⟨t, ht, h1, h2⟩ := key q p hqn hpn e.symm l u hu hs
      exact ⟨t, ht, h1, congrArg Int.ofNat h2.symm⟩
  all R hR p q hpn hqn hpq := by rw [hr.all R hR p q hpn hqn hpq]
def memN (n : Nat) (f : Nat -> Nat) (b : Nat) : List Nat := (List.range n).filter (fun e => decide (f e = b))
theorem mem_memN {f : Nat -> Nat} {b e : Nat} : e ∈ memN n f b ↔ e < n /\ f e = b := by simp [memN]
theorem memN_nodup (f : Nat -> Nat) (b : Nat) : (memN n f b).Nodup := List.Pairwise.filter _ List.nodup_range
theorem memN_srt (f : Nat -> Nat) (b : Nat) : (memN n f b).Pairwise (· < ·) := List.Pairwise.filter _ List.pairwise_lt_range
theorem memN_le (f : Nat -> Nat) (b : Nat) : (memN n f b).length <= n := by
 have := List.length_filter_le (fun e => decide (f e = b)) (List.range n)
 simpa [memN] using this
theorem nodup_le {l m : List Nat} (h : l.Nodup) (hs : ∀ x ∈ l, x ∈ m) : l.length <= m.length := by
 induction l generalizing m with
 | nil => simp
 | cons x l ih => (
 obtain ⟨hx, hl⟩ := List.nodup_cons.1 h
 have hm : x ∈ m := hs x (by simp)
 have h1 := ih (m := m.erase x) hl (fun y hy => (List.mem_erase_of_ne (fun e => hx (by rw [<- e]; exact hy))).2 (hs y (by simp [hy])))
 rw [List.length_erase_of_mem hm] at h1
 have := List.length_pos_of_mem hm
 simp only [List.length_cons]; omega)
theorem heaps_le {f : Nat -> Nat} {H : Nat} (h : ∀ k, k < H -> ∃ p, p < n /\ f p = k) : H <= n := by
 have h1 : ((List.range n).map f).length = n := by simp
 have := nodup_le (l := List.range H) (m := (List.range n).map f) List.nodup_range (fun k hk => by
   obtain ⟨p, hp, e⟩ := h k (by simpa using hk)
   exact List.mem_map.2 ⟨p, by simpa using hp, e⟩)
 simpa using this
theorem memN_new {inn hp : Nat -> Nat} {H b : Nat} (hr : ∀ p, p < n -> hp p < H) : memN n (fun p => if inn p = b then H else hp p) H = memN n inn b := by
 unfold memN
 apply List.filter_congr
 intro x hx
 have := hr x (by simpa using hx)
 show decide ((if inn x = b then H else hp x) = H) = decide (inn x = b)
 by_cases e : inn x = b
 · rw [if_pos e]; simp [e]
 · rw [if_neg e]; simp [e]; omega
theorem memN_rest {inn hp : Nat -> Nat} {H b h : Nat} (hh : h < H) (hb : ∀ p, p < n -> inn p = b -> hp p = h) : (memN n (fun p => if inn p = b then H else hp p) h).length + (memN n inn b).length = (memN n hp h).length := by
 have h1 := List.length_eq_countP_add_countP (l := memN n hp h) (fun e => decide (inn e = b))
 rw [h1, List.countP_eq_length_filter, List.countP_eq_length_filter]
 have e1 : (memN n hp h).filter (fun e => decide (inn e = b)) = memN n inn b := by (
 unfold memN
 rw [List.filter_filter]
 apply List.filter_congr
 intro x hx
 have := hb x (by simpa using hx)
 by_cases e : inn x = b
 · simp [e, this e]
 · simp [e])
 have e2 : (memN n hp h).filter (fun e => decide ¬(decide (inn e = b)) = true) = memN n (fun p => if inn p = b then H else hp p) h := by (
 unfold memN
 rw [List.filter_filter]
 apply List.filter_congr
 intro x hx
 by_cases e : inn x = b
 · simp [e]; omega
 · simp [e])
 rw [e1, e2]; omega
theorem memN_else {inn hp : Nat -> Nat} {H b h k : Nat} (hk : k ≠ H) (hkh : k ≠ h) (hb : ∀ p, p < n -> inn p = b -> hp p = h) : memN n (fun p => if inn p = b then H else hp p) k = memN n hp k := by
 unfold memN
 apply List.filter_congr
 intro x hx
 have := hb x (by simpa using hx)
 by_cases e : inn x = b
 · have h2 : ¬ H = k := fun e => hk e.symm
   have h3 : ¬ h = k := fun e => hkh e.symm
   simp [e, this e, h2, h3]
 · simp [e]
def Gau (n : Nat) (hp ga : Nat -> Nat) : Prop := ∀ p, p < n -> 1 <= ga p /\ 2 ^ (ga p - 1) * (memN n hp (hp p)).length <= n
theorem Gau.begin : Gau n (fun _ => 0) (fun _ => 1) := fun p _ => ⟨Nat.le_refl _, by
  have := memN_le (n := n) (fun _ => 0) 0
  simpa using this⟩
theorem Gau.take {inn hp ga : Nat -> Nat} {H b h : Nat} (hg : Gau n hp ga) (hr : ∀ p, p < n -> hp p < H) (hb : ∀ p, p < n -> inn p = b -> hp p = h) (hl : 2 * (memN n inn b).length <= (memN n hp h).length) :
    Gau n (fun p => if inn p = b then H else hp p) (fun p => if inn p = b then ga p + 1 else ga p) := by
 intro p hpn
 obtain ⟨h1, h2⟩ := hg p hpn
 by_cases e : inn p = b
 · (
 simp only [if_pos e]
 refine ⟨by omega, ?_⟩
 have hle : (memN n (fun p => if inn p = b then H else hp p) H).length <= (memN n inn b).length := nodup_le (memN_nodup _ _) (fun x hx => by (
 obtain ⟨hx1, hx2⟩ := mem_memN.1 hx
 refine mem_memN.2 ⟨hx1, ?_⟩
 by_cases e2 : inn x = b
 · exact e2
 · have hx2 : (if inn x = b then H else hp x) = H := hx2
   rw [if_neg e2] at hx2
   have := hr x hx1; omega))
 have e3 : ga p + 1 - 1 = (ga p - 1) + 1 := by omega
 rw [e3, Nat.pow_succ]
 rw [hb p hpn e] at h2
 calc 2 ^ (ga p - 1) * 2 * (memN n (fun p => if inn p = b then H else hp p) H).length <= 2 ^ (ga p - 1) * 2 * (memN n inn b).length := Nat.mul_le_mul_left _ hle
   _ = 2 ^ (ga p - 1) * (2 * (memN n inn b).length) := by rw [Nat.mul_assoc]
   _ <= 2 ^ (ga p - 1) * (memN n hp h).length := Nat.mul_le_mul_left _ hl
   _ <= n := h2)
 · (
 simp only [if_neg e]
 refine ⟨h1, ?_⟩
 have hle : (memN n (fun p => if inn p = b then H else hp p) (hp p)).length <= (memN n hp (hp p)).length := nodup_le (memN_nodup _ _) (fun x hx => by (
 obtain ⟨hx1, hx2⟩ := mem_memN.1 hx
 refine mem_memN.2 ⟨hx1, ?_⟩
 have hx2 : (if inn x = b then H else hp x) = hp p := hx2
 by_cases e2 : inn x = b
 · rw [if_pos e2] at hx2
   have := hr p hpn; omega
 · rw [if_neg e2] at hx2; exact hx2))
 exact Nat.le_trans (Nat.mul_le_mul_left _ hle) h2)
theorem Gau.le {hp ga : Nat -> Nat} (h : Gau n hp ga) {p : Nat} (hpn : p < n) : 1 <= ga p /\ 2 ^ (ga p - 1) <= n := by
 obtain ⟨h1, h2⟩ := h p hpn
 refine ⟨h1, Nat.le_trans ?_ h2⟩
 have : 0 < (memN n hp (hp p)).length := List.length_pos_of_mem (mem_memN.2 ⟨hpn, rfl⟩)
 exact Nat.le_mul_of_pos_right _ this
theorem half {inn hp : Nat -> Nat} {b c h : Nat} (hb : ∀ p, p < n -> inn p = b -> hp p = h) (hc : ∀ p, p < n -> inn p = c -> hp p = h) (hbc : b ≠ c) (hl : (memN n inn b).length <= (memN n inn c).length) : 2 * (memN n inn b).length <= (memN n hp h).length := by
 have h1 := nodup_le (l := memN n inn b ++ memN n inn c) (m := memN n hp h) (List.nodup_append.2 ⟨memN_nodup _ _, memN_nodup _ _, fun x hx y hy e => by
   have e1 := (mem_memN.1 hx).2
   have e2 := (mem_memN.1 hy).2
   subst e; omega⟩) (fun x hx => by
   rcases List.mem_append.1 hx with hx | hx
   · obtain ⟨a1, a2⟩ := mem_memN.1 hx
     exact mem_memN.2 ⟨a1, hb x a1 a2⟩
   · obtain ⟨a1, a2⟩ := mem_memN.1 hx
     exact mem_memN.2 ⟨a1, hc x a1 a2⟩)
 rw [List.length_append] at h1
 omega
end
end Pl
end Go.Proofs.YtgikimbafakmcaaGreatDoor
namespace Go.Proofs.YtgikimbafakmcaaGreatDoor
namespace Pl
section
variable {s : Lts} {n : Nat}
theorem SplitBy.congr {X Y : Nat -> Prop} {inn inn' : Nat -> Nat} (h : SplitBy s n X inn inn') (e : ∀ t, t < n -> (X t ↔ Y t)) : SplitBy s n Y inn inn' := fun p q hp hq => by
  rw [h p q hp hq]
  have key : ∀ l p, intoX s n l X p ↔ intoX s n l Y p := fun l p => by
    unfold intoX
    constructor
    · rintro ⟨t, ht, hx, hs⟩; exact ⟨t, ht, (e t ht).1 hx, hs⟩
    · rintro ⟨t, ht, hx, hs⟩; exact ⟨t, ht, (e t ht).2 hx, hs⟩
  constructor
  · rintro ⟨h1, h2⟩; exact ⟨h1, fun l => by rw [<- key, <- key]; exact h2 l⟩
  · rintro ⟨h1, h2⟩; exact ⟨h1, fun l => by rw [key, key]; exact h2 l⟩
theorem memN_congr {f g : Nat -> Nat} (h : ∀ p, p < n -> f p = g p) (b : Nat) : memN n f b = memN n g b := by
 unfold memN
 apply List.filter_congr
 intro x hx
 rw [h x (by simpa using hx)]
theorem Run.congr {inn hp hp' : Nat -> Nat} {H : Nat} (h : Run s n inn hp H) (e : ∀ p, p < n -> hp p = hp' p) : Run s n inn hp' H where
  sub p q hpn hqn he := by rw [<- e p hpn, <- e q hqn]; exact h.sub p q hpn hqn he
  stab p q hpn hqn he l k := by
    have key : ∀ p, intoX s n l (fun t => hp t = k) p ↔ intoX s n l (fun t => hp' t = k) p := fun p => by
      unfold intoX
      constructor
      · rintro ⟨t, ht, hx, hs⟩; exact ⟨t, ht, by show hp' t = k; rw [<- e t ht]; exact hx, hs⟩
      · rintro ⟨t, ht, hx, hs⟩; exact ⟨t, ht, by show hp t = k; rw [e t ht]; exact hx, hs⟩
    rw [<- key, <- key]
    exact h.stab p q hpn hqn he l k
  all := h.all
  rng p hpn := by rw [<- e p hpn]; exact h.rng p hpn
theorem Gau.congr {hp hp' ga ga' : Nat -> Nat} (h : Gau n hp ga) (e : ∀ p, p < n -> hp p = hp' p) (e2 : ∀ p, p < n -> ga p = ga' p) : Gau n hp' ga' := fun p hpn => by
  rw [<- e2 p hpn, <- e p hpn, <- memN_congr e]
  exact h p hpn
structure RunS (s : Lts) (n : Nat) (inn hp ga : Nat -> Nat) (sz : List Int) : Prop where
  run : Run s n inn hp sz.length
  gau : Gau n hp ga
  onto : ∀ k, k < sz.length -> ∃ p, p < n /\ hp p = k
  szs : ∀ k, k < sz.length -> sz[k]? = some ((memN n hp k).length : Int)
theorem Gau.small {hp ga : Nat -> Nat} (h : Gau n hp ga) {p : Nat} (hpn : p < n) : ga p <= n := by
 obtain ⟨h1, h2⟩ := h.le hpn
 have := Nat.lt_two_pow_self (n := ga p - 1)
 omega
theorem RunS.begin {inn : Nat -> Nat} (hn : 0 < n) (h : SplitBy s n (· ∈ List.range n) (fun _ => 0) inn) : RunS s n inn (fun _ => 0) (fun p => if p ∈ List.range n then 0 + 1 else 0) [(n : Int)] where
  run := Run.begin (inn := fun _ => 0) (fun _ _ _ _ => rfl) (h.congr (fun t ht => by simpa using ht))
  gau := Gau.begin.congr (fun _ _ => rfl) (fun p hp => by simp [hp])
  onto k hk := ⟨0, hn, by simp at hk; omega⟩
  szs k hk := by
    have : k = 0 := by simp at hk; omega
    subst this
    have e : memN n (fun _ => 0) 0 = List.range n := by
      unfold memN
      exact List.filter_eq_self.2 (fun a _ => by simp)
    rw [e]; simp
theorem RunS.takeH {inn hp ga inn1 inn2 : Nat -> Nat} {sz : List Int} {b h : Nat} (hr : RunS s n inn hp ga sz) (hb : ∀ p, p < n -> inn p = b -> hp p = h)
    (hhalf : 2 * (memN n inn b).length <= (memN n hp h).length) (hb0 : 0 < (memN n inn b).length) (h1 : SplitBy s n (· ∈ memN n inn b) inn inn1) (h2 : SplitBy s n (· ∈ memN n (fun p => if p ∈ memN n inn b then sz.length else hp p) h) inn1 inn2) {sh : Int} (hsh : sz[h]? = some sh) :
    RunS s n inn2 (fun p => if p ∈ memN n inn b then sz.length else hp p) (fun p => if p ∈ memN n inn b then ga p + 1 else ga p) ((sz ++ [((memN n inn b).length : Int)]).set h (sh - (memN n inn b).length)) := by
 have hh : h < sz.length := (List.getElem?_eq_some_iff.1 hsh).1
 have e : ∀ p, p < n -> (if inn p = b then sz.length else hp p) = (if p ∈ memN n inn b then sz.length else hp p) := fun p hp => by (
 by_cases hi : inn p = b
 · rw [if_pos hi, if_pos (mem_memN.2 ⟨hp, hi⟩)]
 · rw [if_neg hi, if_neg (fun hm => hi (mem_memN.1 hm).2)])
 have e2 : ∀ p, p < n -> (if inn p = b then ga p + 1 else ga p) = (if p ∈ memN n inn b then ga p + 1 else ga p) := fun p hp => by (
 by_cases hi : inn p = b
 · rw [if_pos hi, if_pos (mem_memN.2 ⟨hp, hi⟩)]
 · rw [if_neg hi, if_neg (fun hm => hi (mem_memN.1 hm).2)])
 have hlen : ((sz ++ [((memN n inn b).length : Int)]).set h (sh - (memN n inn b).length)).length = sz.length + 1 := by simp
 have hs1 : SplitBy s n (fun t => inn t = b) inn inn1 := h1.congr (fun t ht => by rw [mem_memN]; simp [ht])
 have hs2 : SplitBy s n (fun t => hp t = h /\ inn t ≠ b) inn1 inn2 := h2.congr (fun t ht => by (
 rw [mem_memN, <- e t ht]
 by_cases hi : inn t = b
 · rw [if_pos hi]; simp [hi]; omega
 · rw [if_neg hi]; simp [hi, ht]))
 have hrest := memN_rest (n := n) (inn := inn) (hp := hp) (H := sz.length) (b := b) (h := h) hh hb
 refine ⟨by rw [hlen]; exact (hr.run.take hb hs1 hs2).congr e, (hr.gau.take hr.run.rng hb hhalf).congr e e2, fun k hk => ?_, fun k hk => ?_⟩
 · (
 rw [hlen] at hk
 by_cases hkn : k = sz.length
 · obtain ⟨p, hp⟩ : ∃ p, p ∈ memN n inn b := ⟨_, List.getElem_mem hb0⟩
   exact ⟨p, (mem_memN.1 hp).1, by rw [if_pos hp, hkn]⟩
 · (
 by_cases hkh : k = h
 · have hpos : 0 < (memN n (fun p => if inn p = b then sz.length else hp p) h).length := by omega
   obtain ⟨p, hp⟩ : ∃ p, p ∈ memN n (fun p => if inn p = b then sz.length else hp p) h := ⟨_, List.getElem_mem hpos⟩
   obtain ⟨hp1, hp2⟩ := mem_memN.1 hp
   exact ⟨p, hp1, by rw [<- e p hp1, hkh]; exact hp2⟩
 · obtain ⟨p, hp1, hp2⟩ := hr.onto k (by omega)
   refine ⟨p, hp1, ?_⟩
   rw [<- e p hp1, if_neg (fun hi => hkh (by rw [<- hp2]; exact hb p hp1 hi)), hp2]))
 · (
 rw [hlen] at hk
 rw [<- memN_congr e]
 rw [List.getElem?_set]
 by_cases hkh : h = k
 · (
 subst hkh
 rw [if_pos rfl, if_pos (by simp; omega)]
 have hsz := hr.szs h hh
 rw [hsh] at hsz
 simp only [Option.some.injEq] at hsz ⊢
 omega)
 · (
 rw [if_neg hkh]
 by_cases hkn : k = sz.length
 · subst hkn
   rw [List.getElem?_append_right (Nat.le_refl _), memN_new hr.run.rng]
   simp
 · rw [List.getElem?_append_left (by omega), hr.szs k (by omega), memN_else hkn (fun e => hkh e.symm) hb]))
theorem RunS.take {inn hp ga inn1 inn2 : Nat -> Nat} {sz : List Int} {b c h : Nat} (hr : RunS s n inn hp ga sz) (hb : ∀ p, p < n -> inn p = b -> hp p = h) (hc : ∀ p, p < n -> inn p = c -> hp p = h) (hbc : b ≠ c)
    (hl : (memN n inn b).length <= (memN n inn c).length) (hb0 : 0 < (memN n inn b).length) (h1 : SplitBy s n (· ∈ memN n inn b) inn inn1) (h2 : SplitBy s n (· ∈ memN n (fun p => if p ∈ memN n inn b then sz.length else hp p) h) inn1 inn2) {sh : Int} (hsh : sz[h]? = some sh) :
    RunS s n inn2 (fun p => if p ∈ memN n inn b then sz.length else hp p) (fun p => if p ∈ memN n inn b then ga p + 1 else ga p) ((sz ++ [((memN n inn b).length : Int)]).set h (sh - (memN n inn b).length)) :=
  hr.takeH hb (half hb hc hbc hl) hb0 h1 h2 hsh
theorem RunS.done {inn hp ga : Nat -> Nat} {sz : List Int} (hr : RunS s n inn hp ga sz) (h : ∀ p q, p < n -> q < n -> hp p = hp q -> inn p = inn q) : Big s n (fun p => (inn p : Int)) := hr.run.done h
theorem RunS.few {inn hp ga : Nat -> Nat} {sz : List Int} (hr : RunS s n inn hp ga sz) : sz.length <= n := heaps_le hr.onto
end
end Pl
end Go.Proofs.YtgikimbafakmcaaGreatDoor
