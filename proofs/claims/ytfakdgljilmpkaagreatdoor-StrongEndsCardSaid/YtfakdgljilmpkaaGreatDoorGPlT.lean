/-
  Plain: what the statements on strong bisimilarity ask: steps met by classes, classes that could be one, states with other numbers, runs that may be played.
  Plain: a small system whose run is played to its end.
-/
import Derived.Test.YtfakdgljilmpkaaGreatDoorPlS
namespace Go.Proofs.YtfakdgljilmpkaaGreatDoor
namespace Pl

section
variable {s : Lts} {n : Nat}

/-- Each step of p is met by a step of q into the same class. -/
def MetP (s : Lts) (n : Nat) (C : Nat → Int) (p q : Nat) : Prop := ∀ l t, t < n → stp s p l t → ∃ u, u < n ∧ stp s q l u ∧ C u = C t

theorem Big.met {C : Nat → Int} (h : Big s n C) {p q : Nat} (hp : p < n) (hq : q < n) (e : C p = C q) : MetP s n C p q := fun l t ht hs => by
  obtain ⟨u, hu, h1, h2⟩ := (h.bis p q hp hq e).1 l t ht hs
  exact ⟨u, hu, h1, h2.symm⟩

/-- Two states that meet one another's steps are together. -/
theorem Big.join {C : Nat → Int} (h : Big s n C) {p q : Nat} (hp : p < n) (hq : q < n) (h1 : MetP s n C p q) (h2 : MetP s n C q p) : C p = C q := by
  have key : ∀ p q, p < n → q < n → MetP s n C p q → ∀ a b, a < n → b < n → C a = C p → C b = C q → ∀ l t, t < n → stp s a l t → ∃ u, u < n ∧ stp s b l u ∧ C t = C u := by
    intro p q hp hq hm a b ha hb ea eb l t ht hs
    obtain ⟨t', ht', s1, e1⟩ := (h.bis a p ha hp ea).1 l t ht hs
    obtain ⟨u', hu', s2, e2⟩ := hm l t' ht' s1
    obtain ⟨u, hu, s3, e3⟩ := (h.bis q b hq hb eb.symm).1 l u' hu' s2
    exact ⟨u, hu, s3, by rw [e1, ← e2, e3]⟩
  refine h.all (fun a b => C a = C b ∨ (C a = C p ∧ C b = C q) ∨ (C a = C q ∧ C b = C p)) (fun a b ha hb hab => ?_) p q hp hq (.inr (.inl ⟨rfl, rfl⟩))
  rcases hab with e | ⟨e1, e2⟩ | ⟨e1, e2⟩
  · obtain ⟨c1, c2⟩ := h.bis a b ha hb e
    refine ⟨fun l t ht hs => ?_, fun l u hu hs => ?_⟩
    · obtain ⟨u, hu, s1, e1⟩ := c1 l t ht hs
      exact ⟨u, hu, s1, .inl e1⟩
    · obtain ⟨t, ht, s1, e1⟩ := c2 l u hu hs
      exact ⟨t, ht, s1, .inl e1⟩
  · refine ⟨fun l t ht hs => ?_, fun l u hu hs => ?_⟩
    · obtain ⟨u, hu, s1, e3⟩ := key p q hp hq h1 a b ha hb e1 e2 l t ht hs
      exact ⟨u, hu, s1, .inl e3⟩
    · obtain ⟨t, ht, s1, e3⟩ := key q p hq hp h2 b a hb ha e2 e1 l u hu hs
      exact ⟨t, ht, s1, .inl e3.symm⟩
  · refine ⟨fun l t ht hs => ?_, fun l u hu hs => ?_⟩
    · obtain ⟨u, hu, s1, e3⟩ := key q p hq hp h2 a b ha hb e1 e2 l t ht hs
      exact ⟨u, hu, s1, .inl e3⟩
    · obtain ⟨t, ht, s1, e3⟩ := key p q hp hq h1 b a hb ha e2 e1 l u hu hs
      exact ⟨t, ht, s1, .inl e3.symm⟩

/-- States with other numbers: the classes are the same, in that order. -/
theorem Big.iso {t : Lts} {C D : Nat → Int} {f g : Nat → Nat} (h : Big s n C) (h' : Big t n D) (hf : ∀ p, p < n → f p < n ∧ g (f p) = p) (hg : ∀ p, p < n → g p < n ∧ f (g p) = p)
    (he : ∀ p l u, p < n → u < n → (stp s p l u ↔ stp t (f p) l (f u))) {p q : Nat} (hp : p < n) (hq : q < n) : C p = C q ↔ D (f p) = D (f q) := by
  have he' : ∀ p l u, p < n → u < n → (stp t p l u ↔ stp s (g p) l (g u)) := fun p l u hp hu => by
    rw [he _ l _ (hg p hp).1 (hg u hu).1, (hg p hp).2, (hg u hu).2]
  constructor
  · intro e
    refine h'.all (fun a b => C (g a) = C (g b)) (fun a b ha hb hab => ?_) (f p) (f q) (hf p hp).1 (hf q hq).1 (by rw [(hf p hp).2, (hf q hq).2]; exact e)
    obtain ⟨c1, c2⟩ := h.bis (g a) (g b) (hg a ha).1 (hg b hb).1 hab
    refine ⟨fun l x hx hs => ?_, fun l x hx hs => ?_⟩
    · obtain ⟨u, hu, s1, e1⟩ := c1 l (g x) (hg x hx).1 ((he' a l x ha hx).1 hs)
      exact ⟨f u, (hf u hu).1, (he' b l _ hb (hf u hu).1).2 (by rw [(hf u hu).2]; exact s1), (by show C _ = C _; rw [(hf u hu).2]; exact e1)⟩
    · obtain ⟨u, hu, s1, e1⟩ := c2 l (g x) (hg x hx).1 ((he' b l x hb hx).1 hs)
      exact ⟨f u, (hf u hu).1, (he' a l _ ha (hf u hu).1).2 (by rw [(hf u hu).2]; exact s1), (by show C _ = C _; rw [(hf u hu).2]; exact e1)⟩
  · intro e
    refine h.all (fun a b => D (f a) = D (f b)) (fun a b ha hb hab => ?_) p q hp hq e
    obtain ⟨c1, c2⟩ := h'.bis (f a) (f b) (hf a ha).1 (hf b hb).1 hab
    refine ⟨fun l x hx hs => ?_, fun l x hx hs => ?_⟩
    · obtain ⟨u, hu, s1, e1⟩ := c1 l (f x) (hf x hx).1 ((he a l x ha hx).1 hs)
      exact ⟨g u, (hg u hu).1, (he b l _ hb (hg u hu).1).2 (by rw [(hg u hu).2]; exact s1), (by show D _ = D _; rw [(hg u hu).2]; exact e1)⟩
    · obtain ⟨u, hu, s1, e1⟩ := c2 l (f x) (hf x hx).1 ((he b l x hb hx).1 hs)
      exact ⟨g u, (hg u hu).1, (he a l _ ha (hg u hu).1).2 (by rw [(hg u hu).2]; exact s1), (by show D _ = D _; rw [(hg u hu).2]; exact e1)⟩

/-- Which block may be taken of which heap: not all of it, and at most half. -/
def smallB (b h : Int) : Bool := !(decide (b = 0)) && !(decide (b = h)) && decide (b ≤ h - b)

/-- Runs that may be played: the takings so far, the blocks, the heaps. -/
inductive Played (s : Lts) (n : Nat) (T : List (List Int)) : Nat → (Nat → Nat) → (Nat → Nat) → Nat → Prop where
  | first {inn inn' hp : Nat → Nat} (hn : 0 < n) (hT : T[0]? = some ((List.range n).map Int.ofNat)) (h0 : ∀ p q, p < n → q < n → inn p = inn q) (h : SplitBy s n (fun _ => True) inn inn') (he : ∀ q, q < n → hp q = 0) : Played s n T 1 inn' hp 1
  | next {k : Nat} {inn hp inn1 inn2 hp2 : Nat → Nat} {H p : Nat} (h : Played s n T k inn hp H) (hpn : p < n) (hT : T[k]? = some ((memN n inn (inn p)).map Int.ofNat)) (hs : smallB (memN n inn (inn p)).length (memN n hp (hp p)).length = true)
      (h1 : SplitBy s n (fun t => inn t = inn p) inn inn1) (h2 : SplitBy s n (fun t => hp t = hp p ∧ inn t ≠ inn p) inn1 inn2) (he : ∀ q, q < n → hp2 q = if inn q = inn p then H else hp q) : Played s n T (k + 1) inn2 hp2 (H + 1)

/-- May the next one be taken? -/
def MayB (n : Nat) (inn hp : Nat → Nat) (l : List Int) : Prop := ∃ p, p < n ∧ l = (memN n inn (inn p)).map Int.ofNat ∧ smallB (memN n inn (inn p)).length (memN n hp (hp p)).length = true

/-- Why a run is not taken. -/
def PlayBad (s : Lts) (n : Nat) (T : List (List Int)) : Prop :=
  n = 0 ∨ T[0]? ≠ some ((List.range n).map Int.ofNat) ∨ (∃ (k : Nat) (inn hp : Nat → Nat) (H : Nat) (L : List Int), Played s n T k inn hp H ∧ T[k]? = some L ∧ ¬ MayB n inn hp L) ∨
  ∃ (inn hp : Nat → Nat) (H p q : Nat), Played s n T T.length inn hp H ∧ p < n ∧ q < n ∧ hp p = hp q ∧ inn p ≠ inn q
end
end Pl
end Go.Proofs.YtfakdgljilmpkaaGreatDoor

namespace Go.Proofs.YtfakdgljilmpkaaGreatDoor
namespace Pl

/-- The system of the witness, and its run. -/
def al9 : Lts := ⟨(4 : Nat), 2, 0, [(0, 1, 1), (1, 1, 2), (3, 1, 2)]⟩
def run9 : List (List Int) := [[0, 1, 2, 3], [2], [0]]

theorem into9 {l : Int} {X : Nat → Prop} {p : Nat} : intoX al9 4 l X p ↔ l = 1 ∧ ((p = 0 ∧ X 1) ∨ (p = 1 ∧ X 2) ∨ (p = 3 ∧ X 2)) := by
  unfold intoX stp al9
  constructor
  · rintro ⟨t, _, hx, hm⟩
    simp only [List.mem_cons, Prod.mk.injEq, List.not_mem_nil, or_false] at hm
    rcases hm with ⟨h1, h2, h3⟩ | ⟨h1, h2, h3⟩ | ⟨h1, h2, h3⟩
    · obtain rfl : t = 1 := by omega
      exact ⟨h2, .inl ⟨by omega, hx⟩⟩
    · obtain rfl : t = 2 := by omega
      exact ⟨h2, .inr (.inl ⟨by omega, hx⟩)⟩
    · obtain rfl : t = 2 := by omega
      exact ⟨h2, .inr (.inr ⟨by omega, hx⟩)⟩
  · rintro ⟨rfl, h⟩
    rcases h with ⟨rfl, hx⟩ | ⟨rfl, hx⟩ | ⟨rfl, hx⟩
    · exact ⟨1, by omega, hx, by simp⟩
    · exact ⟨2, by omega, hx, by simp⟩
    · exact ⟨2, by omega, hx, by simp⟩

/-- Who is split by it. -/
def in9 (X : Nat → Prop) (p : Nat) : Prop := (p = 0 ∧ X 1) ∨ (p = 1 ∧ X 2) ∨ (p = 3 ∧ X 2)
theorem split9 {X : Nat → Prop} {inn inn' : Nat → Nat} (h : SplitBy al9 4 X inn inn') {p q : Nat} (hp : p < 4) (hq : q < 4) : inn' p = inn' q ↔ inn p = inn q ∧ (in9 X p ↔ in9 X q) := by
  rw [h p q hp hq]
  constructor
  · rintro ⟨h1, h2⟩
    have := h2 1
    rw [into9, into9] at this
    simpa [in9] using And.intro h1 this
  · rintro ⟨h1, h2⟩
    refine ⟨h1, fun l => ?_⟩
    rw [into9, into9]
    unfold in9 at h2
    rw [h2]

theorem mem9 {f : Nat → Nat} {b : Nat} : memN 4 f b = (if f 0 = b then [0] else []) ++ ((if f 1 = b then [1] else []) ++ ((if f 2 = b then [2] else []) ++ (if f 3 = b then [3] else []))) := by
  unfold memN
  rw [show List.range 4 = [0, 1, 2, 3] from rfl]
  by_cases h0 : f 0 = b <;> by_cases h1 : f 1 = b <;> by_cases h2 : f 2 = b <;> by_cases h3 : f 3 = b <;> simp [h0, h1, h2, h3]

/-- The blocks behind the first taking. -/
theorem one9 {inn hp : Nat → Nat} {H : Nat} (h : Played al9 4 run9 1 inn hp H) : inn 0 = inn 1 ∧ inn 0 = inn 3 ∧ inn 0 ≠ inn 2 ∧ H = 1 ∧ ∀ q, q < 4 → hp q = 0 := by
  cases h with
  | @first i0 _ _ hn hT h0 h he =>
    have e1 := split9 h (p := 0) (q := 1) (by omega) (by omega)
    have e3 := split9 h (p := 0) (q := 3) (by omega) (by omega)
    have e2 := split9 h (p := 0) (q := 2) (by omega) (by omega)
    have k1 := h0 0 1 (by omega) (by omega); have k2 := h0 0 2 (by omega) (by omega); have k3 := h0 0 3 (by omega) (by omega)
    simp [in9, k1] at e1
    simp [in9, k2] at e2
    simp [in9, k3] at e3
    exact ⟨e1, e3, e2, rfl, he⟩
  | next h' hpn hT hs h1 h2 he => cases h'

theorem two9 {inn hp : Nat → Nat} {H : Nat} (h : Played al9 4 run9 2 inn hp H) : inn 1 = inn 3 ∧ inn 0 ≠ inn 1 ∧ inn 0 ≠ inn 2 ∧ inn 1 ≠ inn 2 ∧ H = 2 ∧ hp 0 = 0 ∧ hp 1 = 0 ∧ hp 3 = 0 ∧ hp 2 = 1 := by
  cases h with
  | @next _ i0 h0 i1 _ _ H0 p h' hpn hT hs h1 h2 he =>
    obtain ⟨a1, a2, a3, rfl, a4⟩ := one9 h'
    have hp2 : i0 2 = i0 p := by
      rw [mem9] at hT
      unfold run9 at hT
      have hh : p = 0 ∨ p = 1 ∨ p = 2 ∨ p = 3 := by omega
      rcases hh with rfl | rfl | rfl | rfl
      · simp [a1.symm, a2.symm, Ne.symm a3] at hT
      · simp [a1.symm, a2.symm, Ne.symm a3] at hT
      · rfl
      · simp [a1.symm, a2.symm, Ne.symm a3] at hT
    rw [← hp2] at h1 h2 he
    have e0 := he 0 (by omega); have e1 := he 1 (by omega); have e2 := he 2 (by omega); have e3 := he 3 (by omega)
    rw [if_neg a3, a4 0 (by omega)] at e0
    rw [if_neg (by rw [← a1]; exact a3), a4 1 (by omega)] at e1
    rw [if_pos rfl] at e2
    rw [if_neg (by rw [← a2]; exact a3), a4 3 (by omega)] at e3
    have n1 : i0 1 ≠ i0 2 := by rw [← a1]; exact a3
    have n3 : i0 3 ≠ i0 2 := by rw [← a2]; exact a3
    have hpe : h0 p = 0 := a4 p hpn
    have r := fun x y hx hy => split9 h1 (p := x) (q := y) hx hy
    have r2 := fun x y hx hy => split9 h2 (p := x) (q := y) hx hy
    have x01 := r2 0 1 (by omega) (by omega); have x02 := r2 0 2 (by omega) (by omega); have x12 := r2 1 2 (by omega) (by omega); have x13 := r2 1 3 (by omega) (by omega)
    rw [r 0 1 (by omega) (by omega)] at x01
    rw [r 0 2 (by omega) (by omega)] at x02
    rw [r 1 2 (by omega) (by omega)] at x12
    rw [r 1 3 (by omega) (by omega)] at x13
    simp [in9, n1] at x01
    simp [a3] at x02
    simp [n1] at x12
    simp [in9, a1.symm, a2.symm] at x13
    exact ⟨x13, x01, x02, x12, rfl, e0, e1, e3, e2⟩

theorem three9 {inn hp : Nat → Nat} {H : Nat} (h : Played al9 4 run9 3 inn hp H) : inn 1 = inn 3 ∧ inn 0 ≠ inn 1 ∧ inn 0 ≠ inn 2 ∧ inn 1 ≠ inn 2 ∧ hp 0 = 2 ∧ hp 1 = 0 ∧ hp 3 = 0 ∧ hp 2 = 1 := by
  cases h with
  | @next _ i0 h0 i1 _ _ H0 p h' hpn hT hs h1 h2 he =>
    obtain ⟨a1, a2, a3, a4, rfl, b0, b1, b3, b2⟩ := two9 h'
    have hp0 : i0 0 = i0 p := by
      rw [mem9] at hT
      unfold run9 at hT
      have hh : p = 0 ∨ p = 1 ∨ p = 2 ∨ p = 3 := by omega
      rcases hh with rfl | rfl | rfl | rfl
      · rfl
      · simp [a1.symm, a2] at hT
      · simp [a3] at hT
        by_cases x : i0 1 = i0 2
        · exact absurd x a4
        · have : ¬ i0 3 = i0 2 := by rw [← a1]; exact x
          simp [x, this] at hT
      · simp [a1.symm, a2] at hT
    rw [← hp0] at h1 h2 he
    have hp0' : p = 0 := by
      have hh : p = 0 ∨ p = 1 ∨ p = 2 ∨ p = 3 := by omega
      rcases hh with rfl | rfl | rfl | rfl
      · rfl
      · exact absurd hp0 a2
      · exact absurd hp0 a3
      · exact absurd (hp0.trans a1.symm) a2
    subst hp0'
    have e0 := he 0 (by omega); have e1 := he 1 (by omega); have e2 := he 2 (by omega); have e3 := he 3 (by omega)
    rw [if_pos rfl] at e0
    rw [if_neg (Ne.symm a2), b1] at e1
    rw [if_neg (Ne.symm a3), b2] at e2
    rw [if_neg (by rw [← a1]; exact Ne.symm a2), b3] at e3
    have r := fun x y hx hy => split9 h1 (p := x) (q := y) hx hy
    have r2 := fun x y hx hy => split9 h2 (p := x) (q := y) hx hy
    have x01 := r2 0 1 (by omega) (by omega); have x02 := r2 0 2 (by omega) (by omega); have x12 := r2 1 2 (by omega) (by omega); have x13 := r2 1 3 (by omega) (by omega)
    rw [r 0 1 (by omega) (by omega)] at x01
    rw [r 0 2 (by omega) (by omega)] at x02
    rw [r 1 2 (by omega) (by omega)] at x12
    rw [r 1 3 (by omega) (by omega)] at x13
    simp [a2] at x01
    simp [a3] at x02
    simp [a4] at x12
    simp [in9, a1] at x13
    exact ⟨x13, x01, x02, x12, e0, e1, e3, e2⟩

/-- The run is taken. -/
theorem good9 : ¬ PlayBad al9 4 run9 := by
  rintro (h | h | ⟨k, inn, hp, H, L, h, hT, hno⟩ | ⟨inn, hp, H, p, q, h, hpn, hqn, e1, e2⟩)
  · cases h
  · exact h rfl
  · have hk : k < 3 := (List.getElem?_eq_some_iff.1 hT).1
    have hk0 : k ≠ 0 := fun e => by subst e; cases h
    have hh : k = 1 ∨ k = 2 := by omega
    rcases hh with rfl | rfl
    · obtain ⟨a1, a2, a3, _, a4⟩ := one9 h
      obtain rfl : [2] = L := Option.some.inj hT
      refine hno ⟨2, by omega, ?_, ?_⟩
      · rw [mem9, if_neg a3, if_neg (by rw [← a1]; exact a3), if_pos rfl, if_neg (by rw [← a2]; exact a3)]; rfl
      · rw [mem9, mem9, if_neg a3, if_neg (by rw [← a1]; exact a3), if_pos rfl, if_neg (by rw [← a2]; exact a3)]
        simp [a4, smallB]
    · obtain ⟨a1, a2, a3, a4, _, b0, b1, b3, b2⟩ := two9 h
      obtain rfl : [0] = L := Option.some.inj hT
      refine hno ⟨0, by omega, ?_, ?_⟩
      · rw [mem9, if_pos rfl, if_neg (Ne.symm a2), if_neg (Ne.symm a3), if_neg (by rw [← a1]; exact Ne.symm a2)]; rfl
      · rw [mem9, mem9, if_pos rfl, if_neg (Ne.symm a2), if_neg (Ne.symm a3), if_neg (by rw [← a1]; exact Ne.symm a2)]
        simp [b0, b1, b2, b3, smallB]
  · obtain ⟨a1, a2, a3, a4, b0, b1, b3, b2⟩ := three9 h
    have hp4 : p = 0 ∨ p = 1 ∨ p = 2 ∨ p = 3 := by omega
    have hq4 : q = 0 ∨ q = 1 ∨ q = 2 ∨ q = 3 := by omega
    rcases hp4 with rfl | rfl | rfl | rfl <;> rcases hq4 with rfl | rfl | rfl | rfl <;> first | (exact e2 rfl) | (exact e2 a1) | (exact e2 a1.symm) | (rw [b0, b1] at e1; cases e1) | (rw [b0, b2] at e1; cases e1) | (rw [b0, b3] at e1; cases e1) | (rw [b1, b0] at e1; cases e1) | (rw [b1, b2] at e1; cases e1) | (rw [b2, b0] at e1; cases e1) | (rw [b2, b1] at e1; cases e1) | (rw [b2, b3] at e1; cases e1) | (rw [b3, b0] at e1; cases e1) | (rw [b3, b2] at e1; cases e1)

/-- Its classes. -/
theorem cls9 {C : Nat → Int} (h : Big al9 4 C) : canon (fl 4 C) = [0, 1, 2, 1] := by
  have hs : ∀ p l t, stp al9 p l t ↔ l = 1 ∧ ((p = 0 ∧ t = 1) ∨ (p = 1 ∧ t = 2) ∨ (p = 3 ∧ t = 2)) := fun p l t => by
    unfold stp al9
    simp only [List.mem_cons, Prod.mk.injEq, List.not_mem_nil, or_false]
    omega
  have h13 : C 1 = C 3 := h.all (fun p q => p = q ∨ (p = 1 ∧ q = 3) ∨ (p = 3 ∧ q = 1)) (fun p q hp hq hr => by
    refine ⟨fun l t ht hst => ?_, fun l t ht hst => ?_⟩
    · rw [hs] at hst
      rcases hr with rfl | ⟨rfl, rfl⟩ | ⟨rfl, rfl⟩
      · exact ⟨t, ht, (hs _ _ _).2 hst, .inl rfl⟩
      · exact ⟨t, ht, (hs _ _ _).2 (by omega), .inl rfl⟩
      · exact ⟨t, ht, (hs _ _ _).2 (by omega), .inl rfl⟩
    · rw [hs] at hst
      rcases hr with rfl | ⟨rfl, rfl⟩ | ⟨rfl, rfl⟩
      · exact ⟨t, ht, (hs _ _ _).2 hst, .inl rfl⟩
      · exact ⟨t, ht, (hs _ _ _).2 (by omega), .inl rfl⟩
      · exact ⟨t, ht, (hs _ _ _).2 (by omega), .inl rfl⟩) 1 3 (by omega) (by omega) (.inr (.inl ⟨rfl, rfl⟩))
  have hx2 : ∀ p, p = 0 ∨ p = 1 → C p ≠ C 2 := fun p hp e => by
    obtain ⟨u, _, h1, _⟩ := (h.bis p 2 (by omega) (by omega) e).1 1 (p + 1) (by omega) ((hs _ _ _).2 (by omega))
    rw [hs] at h1; omega
  have h02 := hx2 0 (.inl rfl); have h12 := hx2 1 (.inr rfl)
  have h01 : C 0 ≠ C 1 := fun e => by
    obtain ⟨u, _, h1, h2⟩ := (h.bis 0 1 (by omega) (by omega) e).1 1 1 (by omega) ((hs _ _ _).2 (by omega))
    rw [hs] at h1
    obtain rfl : u = 2 := by omega
    exact h12 h2
  have hD : canon (fl 4 C) = canon (fl 4 (fun p => [0, 1, 2, 1].getD p 0)) := canon_same (fun p q hp hq => by
    have hp4 : p = 0 ∨ p = 1 ∨ p = 2 ∨ p = 3 := by omega
    have hq4 : q = 0 ∨ q = 1 ∨ q = 2 ∨ q = 3 := by omega
    rcases hp4 with rfl | rfl | rfl | rfl <;> rcases hq4 with rfl | rfl | rfl | rfl <;> simp [h13.symm, h01, h02, h12, Ne.symm h01, Ne.symm h02, Ne.symm h12])
  rw [hD]
  decide
end Pl
end Go.Proofs.YtfakdgljilmpkaaGreatDoor
