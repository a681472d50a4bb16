/-
  Plain: strong bisimulations; the classes that are the coarsest one; the run of splits that ends in them.
  Plain: what the statements on strong bisimilarity ask: steps met by classes, classes that could be one, states with other numbers, runs that may be played.
  Plain: the silent steps alone, from a state on.
  Plain: a run's state: blocks, heaps, sizes, gauges together.
-/
import Derived.Test.YtclannenknhfpaaGreatDoorGPl10
import Derived.Test.YtclannenknhfpaaGreatDoorPl8
namespace Go.Proofs.YtclannenknhfpaaGreatDoor
namespace Pl

/-- A step between numbered states. -/
def stp (s : Lts) (p : Nat) (l : Int) (t : Nat) : Prop := ((p : Int), l, (t : Int)) ∈ s.es

/-- Has p a step by l into X? -/
def intoX (s : Lts) (n : Nat) (l : Int) (X : Nat → Prop) (p : Nat) : Prop := ∃ t, t < n ∧ X t ∧ stp s p l t

/-- A strong bisimulation: pairs that meet one another's steps. -/
def IsBis (s : Lts) (n : Nat) (R : Nat → Nat → Prop) : Prop := ∀ p q, p < n → q < n → R p q →
  (∀ l t, t < n → stp s p l t → ∃ u, u < n ∧ stp s q l u ∧ R t u) ∧ (∀ l u, u < n → stp s q l u → ∃ t, t < n ∧ stp s p l t ∧ R t u)

/-- The classes of strong bisimilarity. -/
structure Big (s : Lts) (n : Nat) (C : Nat → Int) : Prop where
  bis : IsBis s n (fun p q => C p = C q)
  all : ∀ R, IsBis s n R → ∀ p q, p < n → q < n → R p q → C p = C q

section
variable {s : Lts} {n : Nat}

theorem Big.same {C D : Nat → Int} (h : Big s n C) (h' : Big s n D) {p q : Nat} (hp : p < n) (hq : q < n) : C p = C q ↔ D p = D q :=
  ⟨fun e => h'.all _ h.bis p q hp hq e, fun e => h.all _ h'.bis p q hp hq e⟩

theorem canon_same {C D : Nat → Int} (h : ∀ p q, p < n → q < n → (C p = C q ↔ D p = D q)) : canon (fl n C) = canon (fl n D) := by
  rw [sameT_canon (by rw [fl_len, fl_len])]
  intro i k x y x' y' hki hx hy hx' hy'
  have hi : i < n := by have := (List.getElem?_eq_some_iff.1 hx).1; rwa [fl_len] at this
  have hk : k < n := by omega
  rw [fl_get C hi] at hx; rw [fl_get C hk] at hy; rw [fl_get D hi] at hx'; rw [fl_get D hk] at hy'
  cases hx; cases hy; cases hx'; cases hy'
  exact h i k hi hk
theorem Big.uniq {C D : Nat → Int} (h : Big s n C) (h' : Big s n D) : canon (fl n C) = canon (fl n D) := canon_same (fun _ _ hp hq => h.same h' hp hq)
theorem Big.congr {C D : Nat → Int} (h : Big s n C) (e : ∀ p q, p < n → q < n → (C p = C q ↔ D p = D q)) : Big s n D where
  bis p q hp hq hpq := by
    obtain ⟨h1, h2⟩ := h.bis p q hp hq ((e p q hp hq).2 hpq)
    refine ⟨fun l t ht hs => ?_, fun l u hu hs => ?_⟩
    · obtain ⟨u, hu, h3, h4⟩ := h1 l t ht hs
      exact ⟨u, hu, h3, (e t u ht hu).1 h4⟩
    · obtain ⟨t, ht, h3, h4⟩ := h2 l u hu hs
      exact ⟨t, ht, h3, (e t u ht hu).1 h4⟩
  all R hR p q hp hq h1 := (e p q hp hq).1 (h.all R hR p q hp hq h1)
/-- The classes in the one form. -/
theorem Big.clf {C : Nat → Int} (h : Big s n C) : Big s n (clf n C) := h.congr (fun _ _ hp hq => (clf_eq hp hq).symm)

/-- The classes are those of every system with the same steps. -/
theorem Big.steps {s' : Lts} {C : Nat → Int} (h : Big s n C) (e : ∀ p l t, p < n → t < n → (stp s p l t ↔ stp s' p l t)) : Big s' n C where
  bis p q hp hq hpq := by
    obtain ⟨h1, h2⟩ := h.bis p q hp hq hpq
    refine ⟨fun l t ht hs => ?_, fun l u hu hs => ?_⟩
    · obtain ⟨u, hu, h3, h4⟩ := h1 l t ht ((e p l t hp ht).2 hs)
      exact ⟨u, hu, (e q l u hq hu).1 h3, h4⟩
    · obtain ⟨t, ht, h3, h4⟩ := h2 l u hu ((e q l u hq hu).2 hs)
      exact ⟨t, ht, (e p l t hp ht).1 h3, h4⟩
  all R hR p q hp hq h1 := by
    refine h.all R (fun p q hp hq hpq => ?_) p q hp hq h1
    obtain ⟨h1, h2⟩ := hR p q hp hq hpq
    refine ⟨fun l t ht hs => ?_, fun l u hu hs => ?_⟩
    · obtain ⟨u, hu, h3, h4⟩ := h1 l t ht ((e p l t hp ht).1 hs)
      exact ⟨u, hu, (e q l u hq hu).2 h3, h4⟩
    · obtain ⟨t, ht, h3, h4⟩ := h2 l u hu ((e q l u hq hu).1 hs)
      exact ⟨t, ht, (e p l t hp ht).2 h3, h4⟩

/-- Blocks split by which states have steps into X. -/
def SplitBy (s : Lts) (n : Nat) (X : Nat → Prop) (inn inn' : Nat → Nat) : Prop :=
  ∀ p q, p < n → q < n → (inn' p = inn' q ↔ inn p = inn q ∧ ∀ l, (intoX s n l X p ↔ intoX s n l X q))

/-- A run of splits: blocks, over them heaps (so many, none of them empty). -/
structure Run (s : Lts) (n : Nat) (inn hp : Nat → Nat) (H : Nat) : Prop where
  sub : ∀ p q, p < n → q < n → inn p = inn q → hp p = hp q
  stab : ∀ p q, p < n → q < n → inn p = inn q → ∀ l h, (intoX s n l (fun t => hp t = h) p ↔ intoX s n l (fun t => hp t = h) q)
  all : ∀ R, IsBis s n R → ∀ p q, p < n → q < n → R p q → inn p = inn q
  rng : ∀ p, p < n → hp p < H

/-- Pairs of a bisimulation have steps into the same unions of blocks. -/
theorem bis_into {R : Nat → Nat → Prop} (hR : IsBis s n R) {X : Nat → Prop} (hX : ∀ t u, t < n → u < n → R t u → (X t ↔ X u)) {p q : Nat} (hp : p < n) (hq : q < n) (h : R p q) (l : Int) : intoX s n l X p ↔ intoX s n l X q := by
  obtain ⟨h1, h2⟩ := hR p q hp hq h
  constructor
  · rintro ⟨t, ht, hx, hs⟩
    obtain ⟨u, hu, h3, h4⟩ := h1 l t ht hs
    exact ⟨u, hu, (hX t u ht hu h4).1 hx, h3⟩
  · rintro ⟨u, hu, hx, hs⟩
    obtain ⟨t, ht, h3, h4⟩ := h2 l u hu hs
    exact ⟨t, ht, (hX t u ht hu h4).2 hx, h3⟩

/-- The first taking: all states. -/
theorem Run.begin {inn inn' : Nat → Nat} (h0 : ∀ p q, p < n → q < n → inn p = inn q) (h : SplitBy s n (fun _ => True) inn inn') : Run s n inn' (fun _ => 0) 1 where
  sub _ _ _ _ _ := rfl
  stab p q hp hq e l k := by
    have h1 := ((h p q hp hq).1 e).2 l
    by_cases hk : k = 0
    · subst hk; simpa [intoX] using h1
    · have : ¬ (0 = k) := fun e => hk e.symm
      simp [intoX, this]
  all R hR p q hp hq hpq := (h p q hp hq).2 ⟨h0 p q hp hq, fun l => bis_into hR (fun _ _ _ _ _ => Iff.rfl) hp hq hpq l⟩
  rng _ _ := by omega

/-- A block is taken out of its heap. -/
theorem Run.take {inn hp inn1 inn2 : Nat → Nat} {H b h : Nat} (hr : Run s n inn hp H) (hb : ∀ p, p < n → inn p = b → hp p = h) (h1 : SplitBy s n (fun t => inn t = b) inn inn1) (h2 : SplitBy s n (fun t => hp t = h ∧ inn t ≠ b) inn1 inn2) :
    Run s n inn2 (fun p => if inn p = b then H else hp p) (H + 1) where
  sub p q hpn hqn e := by
    have e1 := ((h1 p q hpn hqn).1 ((h2 p q hpn hqn).1 e).1).1
    simp only [e1, hr.sub p q hpn hqn e1]
  stab p q hpn hqn e l k := by
    have a2 := (h2 p q hpn hqn).1 e
    have a1 := (h1 p q hpn hqn).1 a2.1
    have c1 := a1.2 l
    have c2 := a2.2 l
    have c0 := hr.stab p q hpn hqn a1.1 l k
    have key : ∀ p, intoX s n l (fun t => (if inn t = b then H else hp t) = k) p ↔ (if k = H then intoX s n l (fun t => inn t = b) p else if k = h then intoX s n l (fun t => hp t = h ∧ inn t ≠ b) p else intoX s n l (fun t => hp t = k) p) := by
      intro p
      unfold intoX
      constructor
      · rintro ⟨t, ht, hx, hs⟩
        have hx : (if inn t = b then H else hp t) = k := hx
        have hlt := hr.rng t ht
        by_cases e : inn t = b
        · rw [if_pos e] at hx; rw [if_pos hx.symm]; exact ⟨t, ht, e, hs⟩
        · rw [if_neg e] at hx
          rw [if_neg (by omega)]
          by_cases e2 : k = h
          · rw [if_pos e2]; exact ⟨t, ht, ⟨by omega, e⟩, hs⟩
          · rw [if_neg e2]; exact ⟨t, ht, hx, hs⟩
      · intro hh
        by_cases e : k = H
        · rw [if_pos e] at hh
          obtain ⟨t, ht, hx, hs⟩ := hh
          exact ⟨t, ht, by show (if inn t = b then H else hp t) = k; rw [if_pos hx, e], hs⟩
        · rw [if_neg e] at hh
          by_cases e2 : k = h
          · rw [if_pos e2] at hh
            obtain ⟨t, ht, hx, hs⟩ := hh
            exact ⟨t, ht, by show (if inn t = b then H else hp t) = k; rw [if_neg hx.2, e2, hx.1], hs⟩
          · rw [if_neg e2] at hh
            obtain ⟨t, ht, hx, hs⟩ := hh
            have hx : hp t = k := hx
            exact ⟨t, ht, by show (if inn t = b then H else hp t) = k; rw [if_neg (fun e3 => by have := hb t ht e3; omega), hx], hs⟩
    rw [key, key]
    split
    · exact c1
    · split
      · exact c2
      · exact c0
  all R hR p q hpn hqn hpq := by
    have a0 := hr.all R hR
    have c1 : ∀ t u, t < n → u < n → R t u → (inn t = b ↔ inn u = b) := fun t u ht hu h => by rw [a0 t u ht hu h]
    have c2 : ∀ t u, t < n → u < n → R t u → ((hp t = h ∧ inn t ≠ b) ↔ (hp u = h ∧ inn u ≠ b)) := fun t u ht hu hh => by
      have e := a0 t u ht hu hh
      rw [e, hr.sub t u ht hu e]
    exact (h2 p q hpn hqn).2 ⟨(h1 p q hpn hqn).2 ⟨a0 p q hpn hqn hpq, fun l => bis_into hR c1 hpn hqn hpq l⟩, fun l => bis_into hR c2 hpn hqn hpq l⟩
  rng p hpn := by
    have := hr.rng p hpn
    show (if inn p = b then H else hp p) < H + 1
    split <;> omega

/-- Every heap is one block: the classes are those of strong bisimilarity. -/
theorem Run.done {inn hp : Nat → Nat} {H : Nat} (hr : Run s n inn hp H) (h : ∀ p q, p < n → q < n → hp p = hp q → inn p = inn q) : Big s n (fun p => (inn p : Int)) where
  bis p q hpn hqn hpq := by
    have e : inn p = inn q := Int.ofNat.inj hpq
    have key : ∀ p q, p < n → q < n → inn p = inn q → ∀ l t, t < n → stp s p l t → ∃ u, u < n ∧ stp s q l u ∧ inn t = inn u := fun p q hpn hqn e l t ht hs => by
      obtain ⟨u, hu, hx, hs2⟩ := (hr.stab p q hpn hqn e l (hp t)).1 ⟨t, ht, rfl, hs⟩
      exact ⟨u, hu, hs2, (h u t hu ht hx).symm⟩
    refine ⟨fun l t ht hs => ?_, fun l u hu hs => ?_⟩
    · obtain ⟨u, hu, h1, h2⟩ := key p q hpn hqn e l t ht hs
      exact ⟨u, hu, h1, congrArg Int.ofNat h2⟩
    · obtain ⟨t, ht, h1, h2⟩ := key q p hqn hpn e.symm l u hu hs
      exact ⟨t, ht, h1, congrArg Int.ofNat h2.symm⟩
  all R hR p q hpn hqn hpq := by rw [hr.all R hR p q hpn hqn hpq]

/-- The states of a block (or of a heap). -/
def memN (n : Nat) (f : Nat → Nat) (b : Nat) : List Nat := (List.range n).filter (fun e => decide (f e = b))
theorem mem_memN {f : Nat → Nat} {b e : Nat} : e ∈ memN n f b ↔ e < n ∧ f e = b := by simp [memN]
theorem memN_nodup (f : Nat → Nat) (b : Nat) : (memN n f b).Nodup := List.Pairwise.filter _ List.nodup_range
theorem memN_srt (f : Nat → Nat) (b : Nat) : (memN n f b).Pairwise (· < ·) := List.Pairwise.filter _ List.pairwise_lt_range
theorem memN_le (f : Nat → Nat) (b : Nat) : (memN n f b).length ≤ n := by
  have := List.length_filter_le (fun e => decide (f e = b)) (List.range n)
  simpa [memN] using this

/-- Lists without repeats, one in the other. -/
theorem nodup_le {l m : List Nat} (h : l.Nodup) (hs : ∀ x ∈ l, x ∈ m) : l.length ≤ m.length := by
  induction l generalizing m with
  | nil => simp
  | cons x l ih =>
    obtain ⟨hx, hl⟩ := List.nodup_cons.1 h
    have hm : x ∈ m := hs x (by simp)
    have h1 := ih (m := m.erase x) hl (fun y hy => (List.mem_erase_of_ne (fun e => hx (by rw [← e]; exact hy))).2 (hs y (by simp [hy])))
    rw [List.length_erase_of_mem hm] at h1
    have := List.length_pos_of_mem hm
    simp only [List.length_cons]; omega

/-- So many heaps, none of them empty: not more than states. -/
theorem heaps_le {f : Nat → Nat} {H : Nat} (h : ∀ k, k < H → ∃ p, p < n ∧ f p = k) : H ≤ n := by
  have h1 : ((List.range n).map f).length = n := by simp
  have := nodup_le (l := List.range H) (m := (List.range n).map f) List.nodup_range (fun k hk => by
    obtain ⟨p, hp, e⟩ := h k (by simpa using hk)
    exact List.mem_map.2 ⟨p, by simpa using hp, e⟩)
  simpa using this

/-- The heaps behind a taking: their states. -/
theorem memN_new {inn hp : Nat → Nat} {H b : Nat} (hr : ∀ p, p < n → hp p < H) : memN n (fun p => if inn p = b then H else hp p) H = memN n inn b := by
  unfold memN
  apply List.filter_congr
  intro x hx
  have := hr x (by simpa using hx)
  show decide ((if inn x = b then H else hp x) = H) = decide (inn x = b)
  by_cases e : inn x = b
  · rw [if_pos e]; simp [e]
  · rw [if_neg e]; simp [e]; omega
theorem memN_rest {inn hp : Nat → Nat} {H b h : Nat} (hh : h < H) (hb : ∀ p, p < n → inn p = b → hp p = h) : (memN n (fun p => if inn p = b then H else hp p) h).length + (memN n inn b).length = (memN n hp h).length := by
  have h1 := List.length_eq_countP_add_countP (l := memN n hp h) (fun e => decide (inn e = b))
  rw [h1, List.countP_eq_length_filter, List.countP_eq_length_filter]
  have e1 : (memN n hp h).filter (fun e => decide (inn e = b)) = memN n inn b := by
    unfold memN
    rw [List.filter_filter]
    apply List.filter_congr
    intro x hx
    have := hb x (by simpa using hx)
    by_cases e : inn x = b
    · simp [e, this e]
    · simp [e]
  have e2 : (memN n hp h).filter (fun e => decide ¬(decide (inn e = b)) = true) = memN n (fun p => if inn p = b then H else hp p) h := by
    unfold memN
    rw [List.filter_filter]
    apply List.filter_congr
    intro x hx
    by_cases e : inn x = b
    · simp [e]; omega
    · simp [e]
  rw [e1, e2]; omega
theorem memN_else {inn hp : Nat → Nat} {H b h k : Nat} (hk : k ≠ H) (hkh : k ≠ h) (hb : ∀ p, p < n → inn p = b → hp p = h) : memN n (fun p => if inn p = b then H else hp p) k = memN n hp k := by
  unfold memN
  apply List.filter_congr
  intro x hx
  have := hb x (by simpa using hx)
  by_cases e : inn x = b
  · have h2 : ¬ H = k := fun e => hk e.symm
    have h3 : ¬ h = k := fun e => hkh e.symm
    simp [e, this e, h2, h3]
  · simp [e]

/-- The gauge: how often a state was in a taken block; its heap has so much the fewer states. -/
def Gau (n : Nat) (hp ga : Nat → Nat) : Prop := ∀ p, p < n → 1 ≤ ga p ∧ 2 ^ (ga p - 1) * (memN n hp (hp p)).length ≤ n

theorem Gau.begin : Gau n (fun _ => 0) (fun _ => 1) := fun p _ => ⟨Nat.le_refl _, by
  have := memN_le (n := n) (fun _ => 0) 0
  simpa using this⟩
theorem Gau.take {inn hp ga : Nat → Nat} {H b h : Nat} (hg : Gau n hp ga) (hr : ∀ p, p < n → hp p < H) (hb : ∀ p, p < n → inn p = b → hp p = h) (hl : 2 * (memN n inn b).length ≤ (memN n hp h).length) :
    Gau n (fun p => if inn p = b then H else hp p) (fun p => if inn p = b then ga p + 1 else ga p) := by
  intro p hpn
  obtain ⟨h1, h2⟩ := hg p hpn
  by_cases e : inn p = b
  · simp only [if_pos e]
    refine ⟨by omega, ?_⟩
    have hle : (memN n (fun p => if inn p = b then H else hp p) H).length ≤ (memN n inn b).length := nodup_le (memN_nodup _ _) (fun x hx => by
      obtain ⟨hx1, hx2⟩ := mem_memN.1 hx
      refine mem_memN.2 ⟨hx1, ?_⟩
      by_cases e2 : inn x = b
      · exact e2
      · have hx2 : (if inn x = b then H else hp x) = H := hx2
        rw [if_neg e2] at hx2
        have := hr x hx1; omega)
    have e3 : ga p + 1 - 1 = (ga p - 1) + 1 := by omega
    rw [e3, Nat.pow_succ]
    rw [hb p hpn e] at h2
    calc 2 ^ (ga p - 1) * 2 * (memN n (fun p => if inn p = b then H else hp p) H).length ≤ 2 ^ (ga p - 1) * 2 * (memN n inn b).length := Nat.mul_le_mul_left _ hle
      _ = 2 ^ (ga p - 1) * (2 * (memN n inn b).length) := by rw [Nat.mul_assoc]
      _ ≤ 2 ^ (ga p - 1) * (memN n hp h).length := Nat.mul_le_mul_left _ hl
      _ ≤ n := h2
  · simp only [if_neg e]
    refine ⟨h1, ?_⟩
    have hle : (memN n (fun p => if inn p = b then H else hp p) (hp p)).length ≤ (memN n hp (hp p)).length := nodup_le (memN_nodup _ _) (fun x hx => by
      obtain ⟨hx1, hx2⟩ := mem_memN.1 hx
      refine mem_memN.2 ⟨hx1, ?_⟩
      have hx2 : (if inn x = b then H else hp x) = hp p := hx2
      by_cases e2 : inn x = b
      · rw [if_pos e2] at hx2
        have := hr p hpn; omega
      · rw [if_neg e2] at hx2; exact hx2)
    exact Nat.le_trans (Nat.mul_le_mul_left _ hle) h2
theorem Gau.le {hp ga : Nat → Nat} (h : Gau n hp ga) {p : Nat} (hpn : p < n) : 1 ≤ ga p ∧ 2 ^ (ga p - 1) ≤ n := by
  obtain ⟨h1, h2⟩ := h p hpn
  refine ⟨h1, Nat.le_trans ?_ h2⟩
  have : 0 < (memN n hp (hp p)).length := List.length_pos_of_mem (mem_memN.2 ⟨hpn, rfl⟩)
  exact Nat.le_mul_of_pos_right _ this

/-- The lesser one of a heap's blocks is at most half of it. -/
theorem half {inn hp : Nat → Nat} {b c h : Nat} (hb : ∀ p, p < n → inn p = b → hp p = h) (hc : ∀ p, p < n → inn p = c → hp p = h) (hbc : b ≠ c) (hl : (memN n inn b).length ≤ (memN n inn c).length) : 2 * (memN n inn b).length ≤ (memN n hp h).length := by
  have h1 := nodup_le (l := memN n inn b ++ memN n inn c) (m := memN n hp h) (List.nodup_append.2 ⟨memN_nodup _ _, memN_nodup _ _, fun x hx y hy e => by
    have e1 := (mem_memN.1 hx).2
    have e2 := (mem_memN.1 hy).2
    subst e; omega⟩) (fun x hx => by
    rcases List.mem_append.1 hx with hx | hx
    · obtain ⟨a1, a2⟩ := mem_memN.1 hx
      exact mem_memN.2 ⟨a1, hb x a1 a2⟩
    · obtain ⟨a1, a2⟩ := mem_memN.1 hx
      exact mem_memN.2 ⟨a1, hc x a1 a2⟩)
  rw [List.length_append] at h1
  omega
end
end Pl
end Go.Proofs.YtclannenknhfpaaGreatDoor

namespace Go.Proofs.YtclannenknhfpaaGreatDoor
namespace Pl

section
variable {s : Lts} {n : Nat}

/-- Each step of p is met by a step of q into the same class. -/
def MetP (s : Lts) (n : Nat) (C : Nat → Int) (p q : Nat) : Prop := ∀ l t, t < n → stp s p l t → ∃ u, u < n ∧ stp s q l u ∧ C u = C t

theorem Big.met {C : Nat → Int} (h : Big s n C) {p q : Nat} (hp : p < n) (hq : q < n) (e : C p = C q) : MetP s n C p q := fun l t ht hs => by
  obtain ⟨u, hu, h1, h2⟩ := (h.bis p q hp hq e).1 l t ht hs
  exact ⟨u, hu, h1, h2.symm⟩

/-- Two states that meet one another's steps are together. -/
theorem Big.join {C : Nat → Int} (h : Big s n C) {p q : Nat} (hp : p < n) (hq : q < n) (h1 : MetP s n C p q) (h2 : MetP s n C q p) : C p = C q := by
  have key : ∀ p q, p < n → q < n → MetP s n C p q → ∀ a b, a < n → b < n → C a = C p → C b = C q → ∀ l t, t < n → stp s a l t → ∃ u, u < n ∧ stp s b l u ∧ C t = C u := by
    intro p q hp hq hm a b ha hb ea eb l t ht hs
    obtain ⟨t', ht', s1, e1⟩ := (h.bis a p ha hp ea).1 l t ht hs
    obtain ⟨u', hu', s2, e2⟩ := hm l t' ht' s1
    obtain ⟨u, hu, s3, e3⟩ := (h.bis q b hq hb eb.symm).1 l u' hu' s2
    exact ⟨u, hu, s3, by rw [e1, ← e2, e3]⟩
  refine h.all (fun a b => C a = C b ∨ (C a = C p ∧ C b = C q) ∨ (C a = C q ∧ C b = C p)) (fun a b ha hb hab => ?_) p q hp hq (.inr (.inl ⟨rfl, rfl⟩))
  rcases hab with e | ⟨e1, e2⟩ | ⟨e1, e2⟩
  · obtain ⟨c1, c2⟩ := h.bis a b ha hb e
    refine ⟨fun l t ht hs => ?_, fun l u hu hs => ?_⟩
    · obtain ⟨u, hu, s1, e1⟩ := c1 l t ht hs
      exact ⟨u, hu, s1, .inl e1⟩
    · obtain ⟨t, ht, s1, e1⟩ := c2 l u hu hs
      exact ⟨t, ht, s1, .inl e1⟩
  · refine ⟨fun l t ht hs => ?_, fun l u hu hs => ?_⟩
    · obtain ⟨u, hu, s1, e3⟩ := key p q hp hq h1 a b ha hb e1 e2 l t ht hs
      exact ⟨u, hu, s1, .inl e3⟩
    · obtain ⟨t, ht, s1, e3⟩ := key q p hq hp h2 b a hb ha e2 e1 l u hu hs
      exact ⟨t, ht, s1, .inl e3.symm⟩
  · refine ⟨fun l t ht hs => ?_, fun l u hu hs => ?_⟩
    · obtain ⟨u, hu, s1, e3⟩ := key q p hq hp h2 a b ha hb e1 e2 l t ht hs
      exact ⟨u, hu, s1, .inl e3⟩
    · obtain ⟨t, ht, s1, e3⟩ := key p q hp hq h1 b a hb ha e2 e1 l u hu hs
      exact ⟨t, ht, s1, .inl e3.symm⟩

/-- States with other numbers: the classes are the same, in that order. -/
theorem Big.iso {t : Lts} {C D : Nat → Int} {f g : Nat → Nat} (h : Big s n C) (h' : Big t n D) (hf : ∀ p, p < n → f p < n ∧ g (f p) = p) (hg : ∀ p, p < n → g p < n ∧ f (g p) = p)
    (he : ∀ p l u, p < n → u < n → (stp s p l u ↔ stp t (f p) l (f u))) {p q : Nat} (hp : p < n) (hq : q < n) : C p = C q ↔ D (f p) = D (f q) := by
  have he' : ∀ p l u, p < n → u < n → (stp t p l u ↔ stp s (g p) l (g u)) := fun p l u hp hu => by
    rw [he _ l _ (hg p hp).1 (hg u hu).1, (hg p hp).2, (hg u hu).2]
  constructor
  · intro e
    refine h'.all (fun a b => C (g a) = C (g b)) (fun a b ha hb hab => ?_) (f p) (f q) (hf p hp).1 (hf q hq).1 (by rw [(hf p hp).2, (hf q hq).2]; exact e)
    obtain ⟨c1, c2⟩ := h.bis (g a) (g b) (hg a ha).1 (hg b hb).1 hab
    refine ⟨fun l x hx hs => ?_, fun l x hx hs => ?_⟩
    · obtain ⟨u, hu, s1, e1⟩ := c1 l (g x) (hg x hx).1 ((he' a l x ha hx).1 hs)
      exact ⟨f u, (hf u hu).1, (he' b l _ hb (hf u hu).1).2 (by rw [(hf u hu).2]; exact s1), (by show C _ = C _; rw [(hf u hu).2]; exact e1)⟩
    · obtain ⟨u, hu, s1, e1⟩ := c2 l (g x) (hg x hx).1 ((he' b l x hb hx).1 hs)
      exact ⟨f u, (hf u hu).1, (he' a l _ ha (hf u hu).1).2 (by rw [(hf u hu).2]; exact s1), (by show C _ = C _; rw [(hf u hu).2]; exact e1)⟩
  · intro e
    refine h.all (fun a b => D (f a) = D (f b)) (fun a b ha hb hab => ?_) p q hp hq e
    obtain ⟨c1, c2⟩ := h'.bis (f a) (f b) (hf a ha).1 (hf b hb).1 hab
    refine ⟨fun l x hx hs => ?_, fun l x hx hs => ?_⟩
    · obtain ⟨u, hu, s1, e1⟩ := c1 l (f x) (hf x hx).1 ((he a l x ha hx).1 hs)
      exact ⟨g u, (hg u hu).1, (he b l _ hb (hg u hu).1).2 (by rw [(hg u hu).2]; exact s1), (by show D _ = D _; rw [(hg u hu).2]; exact e1)⟩
    · obtain ⟨u, hu, s1, e1⟩ := c2 l (f x) (hf x hx).1 ((he b l x hb hx).1 hs)
      exact ⟨g u, (hg u hu).1, (he a l _ ha (hg u hu).1).2 (by rw [(hg u hu).2]; exact s1), (by show D _ = D _; rw [(hg u hu).2]; exact e1)⟩

/-- Which block may be taken of which heap: not all of it, and at most half. -/
def smallB (b h : Int) : Bool := !(decide (b = 0)) && !(decide (b = h)) && decide (b ≤ h - b)

/-- Runs that may be played: the takings so far, the blocks, the heaps. -/
inductive Played (s : Lts) (n : Nat) (T : List (List Int)) : Nat → (Nat → Nat) → (Nat → Nat) → Nat → Prop where
  | first {inn inn' hp : Nat → Nat} (hn : 0 < n) (hT : T[0]? = some ((List.range n).map Int.ofNat)) (h0 : ∀ p q, p < n → q < n → inn p = inn q) (h : SplitBy s n (fun _ => True) inn inn') (he : ∀ q, q < n → hp q = 0) : Played s n T 1 inn' hp 1
  | next {k : Nat} {inn hp inn1 inn2 hp2 : Nat → Nat} {H p : Nat} (h : Played s n T k inn hp H) (hpn : p < n) (hT : T[k]? = some ((memN n inn (inn p)).map Int.ofNat)) (hs : smallB (memN n inn (inn p)).length (memN n hp (hp p)).length = true)
      (h1 : SplitBy s n (fun t => inn t = inn p) inn inn1) (h2 : SplitBy s n (fun t => hp t = hp p ∧ inn t ≠ inn p) inn1 inn2) (he : ∀ q, q < n → hp2 q = if inn q = inn p then H else hp q) : Played s n T (k + 1) inn2 hp2 (H + 1)

/-- May the next one be taken? -/
def MayB (n : Nat) (inn hp : Nat → Nat) (l : List Int) : Prop := ∃ p, p < n ∧ l = (memN n inn (inn p)).map Int.ofNat ∧ smallB (memN n inn (inn p)).length (memN n hp (hp p)).length = true

/-- Why a run is not taken. -/
def PlayBad (s : Lts) (n : Nat) (T : List (List Int)) : Prop :=
  n = 0 ∨ T[0]? ≠ some ((List.range n).map Int.ofNat) ∨ (∃ (k : Nat) (inn hp : Nat → Nat) (H : Nat) (L : List Int), Played s n T k inn hp H ∧ T[k]? = some L ∧ ¬ MayB n inn hp L) ∨
  ∃ (inn hp : Nat → Nat) (H p q : Nat), Played s n T T.length inn hp H ∧ p < n ∧ q < n ∧ hp p = hp q ∧ inn p ≠ inn q
end
end Pl
end Go.Proofs.YtclannenknhfpaaGreatDoor

namespace Go.Proofs.YtclannenknhfpaaGreatDoor
namespace Pl

/-- The silent steps of s, from q on. -/
def tauOf (s : Lts) (q : Int) : Lts := ⟨s.st, s.lb, q, s.es.filter (fun x => x.2.1 == 0)⟩
theorem tauOf_right {s : Lts} (h : s.Right) {q : Int} (h0 : 0 ≤ q) (h1 : q < s.st) : (tauOf s q).Right := by
  have hr := h.st0
  refine ⟨?_, fun x hx => h.edges x (List.mem_filter.1 hx).1⟩
  unfold HeadBad tauOf
  have := List.length_filter_le (fun x : E => x.2.1 == 0) s.es
  simp only
  omega
theorem mem_tauOf {s : Lts} {q x : Int} {y : S} : y ∈ (tauOf s q).outs x ↔ y ∈ s.outs x ∧ y.1 = 0 := by
  rw [mem_outs, mem_outs]
  unfold tauOf
  simp
end Pl
end Go.Proofs.YtclannenknhfpaaGreatDoor

namespace Go.Proofs.YtclannenknhfpaaGreatDoor
namespace Pl

section
variable {s : Lts} {n : Nat}

theorem SplitBy.congr {X Y : Nat → Prop} {inn inn' : Nat → Nat} (h : SplitBy s n X inn inn') (e : ∀ t, t < n → (X t ↔ Y t)) : SplitBy s n Y inn inn' := fun p q hp hq => by
  rw [h p q hp hq]
  have key : ∀ l p, intoX s n l X p ↔ intoX s n l Y p := fun l p => by
    unfold intoX
    constructor
    · rintro ⟨t, ht, hx, hs⟩; exact ⟨t, ht, (e t ht).1 hx, hs⟩
    · rintro ⟨t, ht, hx, hs⟩; exact ⟨t, ht, (e t ht).2 hx, hs⟩
  constructor
  · rintro ⟨h1, h2⟩; exact ⟨h1, fun l => by rw [← key, ← key]; exact h2 l⟩
  · rintro ⟨h1, h2⟩; exact ⟨h1, fun l => by rw [key, key]; exact h2 l⟩
theorem memN_congr {f g : Nat → Nat} (h : ∀ p, p < n → f p = g p) (b : Nat) : memN n f b = memN n g b := by
  unfold memN
  apply List.filter_congr
  intro x hx
  rw [h x (by simpa using hx)]
theorem Run.congr {inn hp hp' : Nat → Nat} {H : Nat} (h : Run s n inn hp H) (e : ∀ p, p < n → hp p = hp' p) : Run s n inn hp' H where
  sub p q hpn hqn he := by rw [← e p hpn, ← e q hqn]; exact h.sub p q hpn hqn he
  stab p q hpn hqn he l k := by
    have key : ∀ p, intoX s n l (fun t => hp t = k) p ↔ intoX s n l (fun t => hp' t = k) p := fun p => by
      unfold intoX
      constructor
      · rintro ⟨t, ht, hx, hs⟩; exact ⟨t, ht, by show hp' t = k; rw [← e t ht]; exact hx, hs⟩
      · rintro ⟨t, ht, hx, hs⟩; exact ⟨t, ht, by show hp t = k; rw [e t ht]; exact hx, hs⟩
    rw [← key, ← key]
    exact h.stab p q hpn hqn he l k
  all := h.all
  rng p hpn := by rw [← e p hpn]; exact h.rng p hpn
theorem Gau.congr {hp hp' ga ga' : Nat → Nat} (h : Gau n hp ga) (e : ∀ p, p < n → hp p = hp' p) (e2 : ∀ p, p < n → ga p = ga' p) : Gau n hp' ga' := fun p hpn => by
  rw [← e2 p hpn, ← e p hpn, ← memN_congr e]
  exact h p hpn

/-- A run's state between two takings. -/
structure RunS (s : Lts) (n : Nat) (inn hp ga : Nat → Nat) (sz : List Int) : Prop where
  run : Run s n inn hp sz.length
  gau : Gau n hp ga
  onto : ∀ k, k < sz.length → ∃ p, p < n ∧ hp p = k
  szs : ∀ k, k < sz.length → sz[k]? = some ((memN n hp k).length : Int)

theorem Gau.small {hp ga : Nat → Nat} (h : Gau n hp ga) {p : Nat} (hpn : p < n) : ga p ≤ n := by
  obtain ⟨h1, h2⟩ := h.le hpn
  have := Nat.lt_two_pow_self (n := ga p - 1)
  omega

theorem RunS.begin {inn : Nat → Nat} (hn : 0 < n) (h : SplitBy s n (· ∈ List.range n) (fun _ => 0) inn) : RunS s n inn (fun _ => 0) (fun p => if p ∈ List.range n then 0 + 1 else 0) [(n : Int)] where
  run := Run.begin (inn := fun _ => 0) (fun _ _ _ _ => rfl) (h.congr (fun t ht => by simpa using ht))
  gau := Gau.begin.congr (fun _ _ => rfl) (fun p hp => by simp [hp])
  onto k hk := ⟨0, hn, by simp at hk; omega⟩
  szs k hk := by
    have : k = 0 := by simp at hk; omega
    subst this
    have e : memN n (fun _ => 0) 0 = List.range n := by
      unfold memN
      exact List.filter_eq_self.2 (fun a _ => by simp)
    rw [e]; simp

/-- A block of at most half of its heap is taken. -/
theorem RunS.takeH {inn hp ga inn1 inn2 : Nat → Nat} {sz : List Int} {b h : Nat} (hr : RunS s n inn hp ga sz) (hb : ∀ p, p < n → inn p = b → hp p = h)
    (hhalf : 2 * (memN n inn b).length ≤ (memN n hp h).length) (hb0 : 0 < (memN n inn b).length) (h1 : SplitBy s n (· ∈ memN n inn b) inn inn1) (h2 : SplitBy s n (· ∈ memN n (fun p => if p ∈ memN n inn b then sz.length else hp p) h) inn1 inn2) {sh : Int} (hsh : sz[h]? = some sh) :
    RunS s n inn2 (fun p => if p ∈ memN n inn b then sz.length else hp p) (fun p => if p ∈ memN n inn b then ga p + 1 else ga p) ((sz ++ [((memN n inn b).length : Int)]).set h (sh - (memN n inn b).length)) := by
  have hh : h < sz.length := (List.getElem?_eq_some_iff.1 hsh).1
  have e : ∀ p, p < n → (if inn p = b then sz.length else hp p) = (if p ∈ memN n inn b then sz.length else hp p) := fun p hp => by
    by_cases hi : inn p = b
    · rw [if_pos hi, if_pos (mem_memN.2 ⟨hp, hi⟩)]
    · rw [if_neg hi, if_neg (fun hm => hi (mem_memN.1 hm).2)]
  have e2 : ∀ p, p < n → (if inn p = b then ga p + 1 else ga p) = (if p ∈ memN n inn b then ga p + 1 else ga p) := fun p hp => by
    by_cases hi : inn p = b
    · rw [if_pos hi, if_pos (mem_memN.2 ⟨hp, hi⟩)]
    · rw [if_neg hi, if_neg (fun hm => hi (mem_memN.1 hm).2)]
  have hlen : ((sz ++ [((memN n inn b).length : Int)]).set h (sh - (memN n inn b).length)).length = sz.length + 1 := by simp
  have hs1 : SplitBy s n (fun t => inn t = b) inn inn1 := h1.congr (fun t ht => by rw [mem_memN]; simp [ht])
  have hs2 : SplitBy s n (fun t => hp t = h ∧ inn t ≠ b) inn1 inn2 := h2.congr (fun t ht => by
    rw [mem_memN, ← e t ht]
    by_cases hi : inn t = b
    · rw [if_pos hi]; simp [hi]; omega
    · rw [if_neg hi]; simp [hi, ht])
  have hrest := memN_rest (n := n) (inn := inn) (hp := hp) (H := sz.length) (b := b) (h := h) hh hb
  refine ⟨by rw [hlen]; exact (hr.run.take hb hs1 hs2).congr e, (hr.gau.take hr.run.rng hb hhalf).congr e e2, fun k hk => ?_, fun k hk => ?_⟩
  · rw [hlen] at hk
    by_cases hkn : k = sz.length
    · obtain ⟨p, hp⟩ : ∃ p, p ∈ memN n inn b := ⟨_, List.getElem_mem hb0⟩
      exact ⟨p, (mem_memN.1 hp).1, by rw [if_pos hp, hkn]⟩
    · by_cases hkh : k = h
      · have hpos : 0 < (memN n (fun p => if inn p = b then sz.length else hp p) h).length := by omega
        obtain ⟨p, hp⟩ : ∃ p, p ∈ memN n (fun p => if inn p = b then sz.length else hp p) h := ⟨_, List.getElem_mem hpos⟩
        obtain ⟨hp1, hp2⟩ := mem_memN.1 hp
        exact ⟨p, hp1, by rw [← e p hp1, hkh]; exact hp2⟩
      · obtain ⟨p, hp1, hp2⟩ := hr.onto k (by omega)
        refine ⟨p, hp1, ?_⟩
        rw [← e p hp1, if_neg (fun hi => hkh (by rw [← hp2]; exact hb p hp1 hi)), hp2]
  · rw [hlen] at hk
    rw [← memN_congr e]
    rw [List.getElem?_set]
    by_cases hkh : h = k
    · subst hkh
      rw [if_pos rfl, if_pos (by simp; omega)]
      have hsz := hr.szs h hh
      rw [hsh] at hsz
      simp only [Option.some.injEq] at hsz ⊢
      omega
    · rw [if_neg hkh]
      by_cases hkn : k = sz.length
      · subst hkn
        rw [List.getElem?_append_right (Nat.le_refl _), memN_new hr.run.rng]
        simp
      · rw [List.getElem?_append_left (by omega), hr.szs k (by omega), memN_else hkn (fun e => hkh e.symm) hb]

theorem RunS.take {inn hp ga inn1 inn2 : Nat → Nat} {sz : List Int} {b c h : Nat} (hr : RunS s n inn hp ga sz) (hb : ∀ p, p < n → inn p = b → hp p = h) (hc : ∀ p, p < n → inn p = c → hp p = h) (hbc : b ≠ c)
    (hl : (memN n inn b).length ≤ (memN n inn c).length) (hb0 : 0 < (memN n inn b).length) (h1 : SplitBy s n (· ∈ memN n inn b) inn inn1) (h2 : SplitBy s n (· ∈ memN n (fun p => if p ∈ memN n inn b then sz.length else hp p) h) inn1 inn2) {sh : Int} (hsh : sz[h]? = some sh) :
    RunS s n inn2 (fun p => if p ∈ memN n inn b then sz.length else hp p) (fun p => if p ∈ memN n inn b then ga p + 1 else ga p) ((sz ++ [((memN n inn b).length : Int)]).set h (sh - (memN n inn b).length)) :=
  hr.takeH hb (half hb hc hbc hl) hb0 h1 h2 hsh

/-- Every heap has one block. -/
theorem RunS.done {inn hp ga : Nat → Nat} {sz : List Int} (hr : RunS s n inn hp ga sz) (h : ∀ p q, p < n → q < n → hp p = hp q → inn p = inn q) : Big s n (fun p => (inn p : Int)) := hr.run.done h
/-- So many heaps at most as states. -/
theorem RunS.few {inn hp ga : Nat → Nat} {sz : List Int} (hr : RunS s n inn hp ga sz) : sz.length ≤ n := heaps_le hr.onto
end
end Pl
end Go.Proofs.YtclannenknhfpaaGreatDoor
