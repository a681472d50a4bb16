/-
  Plain: a run's state: blocks, heaps, sizes, gauges together.
-/
import Derived.Test.YtopnedihknjjfaaGreatDoorPlS
namespace Go.Proofs.YtopnedihknjjfaaGreatDoor
namespace Pl

section
variable {s : Lts} {n : Nat}

theorem SplitBy.congr {X Y : Nat → Prop} {inn inn' : Nat → Nat} (h : SplitBy s n X inn inn') (e : ∀ t, t < n → (X t ↔ Y t)) : SplitBy s n Y inn inn' := fun p q hp hq => by
  rw [h p q hp hq]
  have key : ∀ l p, intoX s n l X p ↔ intoX s n l Y p := fun l p => by
    unfold intoX
    constructor
    · rintro ⟨t, ht, hx, hs⟩; exact ⟨t, ht, (e t ht).1 hx, hs⟩
    · rintro ⟨t, ht, hx, hs⟩; exact ⟨t, ht, (e t ht).2 hx, hs⟩
  constructor
  · rintro ⟨h1, h2⟩; exact ⟨h1, fun l => by rw [← key, ← key]; exact h2 l⟩
  · rintro ⟨h1, h2⟩; exact ⟨h1, fun l => by rw [key, key]; exact h2 l⟩
theorem memN_congr {f g : Nat → Nat} (h : ∀ p, p < n → f p = g p) (b : Nat) : memN n f b = memN n g b := by
  unfold memN
  apply List.filter_congr
  intro x hx
  rw [h x (by simpa using hx)]
theorem Run.congr {inn hp hp' : Nat → Nat} {H : Nat} (h : Run s n inn hp H) (e : ∀ p, p < n → hp p = hp' p) : Run s n inn hp' H where
  sub p q hpn hqn he := by rw [← e p hpn, ← e q hqn]; exact h.sub p q hpn hqn he
  stab p q hpn hqn he l k := by
    have key : ∀ p, intoX s n l (fun t => hp t = k) p ↔ intoX s n l (fun t => hp' t = k) p := fun p => by
      unfold intoX
      constructor
      · rintro ⟨t, ht, hx, hs⟩; exact ⟨t, ht, by show hp' t = k; rw [← e t ht]; exact hx, hs⟩
      · rintro ⟨t, ht, hx, hs⟩; exact ⟨t, ht, by show hp t = k; rw [e t ht]; exact hx, hs⟩
    rw [← key, ← key]
    exact h.stab p q hpn hqn he l k
  all := h.all
  rng p hpn := by rw [← e p hpn]; exact h.rng p hpn
theorem Gau.congr {hp hp' ga ga' : Nat → Nat} (h : Gau n hp ga) (e : ∀ p, p < n → hp p = hp' p) (e2 : ∀ p, p < n → ga p = ga' p) : Gau n hp' ga' := fun p hpn => by
  rw [← e2 p hpn, ← e p hpn, ← memN_congr e]
  exact h p hpn

/-- A run's state between two takings. -/
structure RunS (s : Lts) (n : Nat) (inn hp ga : Nat → Nat) (sz : List Int) : Prop where
  run : Run s n inn hp sz.length
  gau : Gau n hp ga
  onto : ∀ k, k < sz.length → ∃ p, p < n ∧ hp p = k
  szs : ∀ k, k < sz.length → sz[k]? = some ((memN n hp k).length : Int)

theorem Gau.small {hp ga : Nat → Nat} (h : Gau n hp ga) {p : Nat} (hpn : p < n) : ga p ≤ n := by
  obtain ⟨h1, h2⟩ := h.le hpn
  have := Nat.lt_two_pow_self (n := ga p - 1)
  omega

theorem RunS.begin {inn : Nat → Nat} (hn : 0 < n) (h : SplitBy s n (· ∈ List.range n) (fun _ => 0) inn) : RunS s n inn (fun _ => 0) (fun p => if p ∈ List.range n then 0 + 1 else 0) [(n : Int)] where
  run := Run.begin (inn := fun _ => 0) (fun _ _ _ _ => rfl) (h.congr (fun t ht => by simpa using ht))
  gau := Gau.begin.congr (fun _ _ => rfl) (fun p hp => by simp [hp])
  onto k hk := ⟨0, hn, by simp at hk; omega⟩
  szs k hk := by
    have : k = 0 := by simp at hk; omega
    subst this
    have e : memN n (fun _ => 0) 0 = List.range n := by
      unfold memN
      exact List.filter_eq_self.2 (fun a _ => by simp)
    rw [e]; simp

/-- A block of at most half of its heap is taken. -/
theorem RunS.takeH {inn hp ga inn1 inn2 : Nat → Nat} {sz : List Int} {b h : Nat} (hr : RunS s n inn hp ga sz) (hb : ∀ p, p < n → inn p = b → hp p = h)
    (hhalf : 2 * (memN n inn b).length ≤ (memN n hp h).length) (hb0 : 0 < (memN n inn b).length) (h1 : SplitBy s n (· ∈ memN n inn b) inn inn1) (h2 : SplitBy s n (· ∈ memN n (fun p => if p ∈ memN n inn b then sz.length else hp p) h) inn1 inn2) {sh : Int} (hsh : sz[h]? = some sh) :
    RunS s n inn2 (fun p => if p ∈ memN n inn b then sz.length else hp p) (fun p => if p ∈ memN n inn b then ga p + 1 else ga p) ((sz ++ [((memN n inn b).length : Int)]).set h (sh - (memN n inn b).length)) := by
  have hh : h < sz.length := (List.getElem?_eq_some_iff.1 hsh).1
  have e : ∀ p, p < n → (if inn p = b then sz.length else hp p) = (if p ∈ memN n inn b then sz.length else hp p) := fun p hp => by
    by_cases hi : inn p = b
    · rw [if_pos hi, if_pos (mem_memN.2 ⟨hp, hi⟩)]
    · rw [if_neg hi, if_neg (fun hm => hi (mem_memN.1 hm).2)]
  have e2 : ∀ p, p < n → (if inn p = b then ga p + 1 else ga p) = (if p ∈ memN n inn b then ga p + 1 else ga p) := fun p hp => by
    by_cases hi : inn p = b
    · rw [if_pos hi, if_pos (mem_memN.2 ⟨hp, hi⟩)]
    · rw [if_neg hi, if_neg (fun hm => hi (mem_memN.1 hm).2)]
  have hlen : ((sz ++ [((memN n inn b).length : Int)]).set h (sh - (memN n inn b).length)).length = sz.length + 1 := by simp
  have hs1 : SplitBy s n (fun t => inn t = b) inn inn1 := h1.congr (fun t ht => by rw [mem_memN]; simp [ht])
  have hs2 : SplitBy s n (fun t => hp t = h ∧ inn t ≠ b) inn1 inn2 := h2.congr (fun t ht => by
    rw [mem_memN, ← e t ht]
    by_cases hi : inn t = b
    · rw [if_pos hi]; simp [hi]; omega
    · rw [if_neg hi]; simp [hi, ht])
  have hrest := memN_rest (n := n) (inn := inn) (hp := hp) (H := sz.length) (b := b) (h := h) hh hb
  refine ⟨by rw [hlen]; exact (hr.run.take hb hs1 hs2).congr e, (hr.gau.take hr.run.rng hb hhalf).congr e e2, fun k hk => ?_, fun k hk => ?_⟩
  · rw [hlen] at hk
    by_cases hkn : k = sz.length
    · obtain ⟨p, hp⟩ : ∃ p, p ∈ memN n inn b := ⟨_, List.getElem_mem hb0⟩
      exact ⟨p, (mem_memN.1 hp).1, by rw [if_pos hp, hkn]⟩
    · by_cases hkh : k = h
      · have hpos : 0 < (memN n (fun p => if inn p = b then sz.length else hp p) h).length := by omega
        obtain ⟨p, hp⟩ : ∃ p, p ∈ memN n (fun p => if inn p = b then sz.length else hp p) h := ⟨_, List.getElem_mem hpos⟩
        obtain ⟨hp1, hp2⟩ := mem_memN.1 hp
        exact ⟨p, hp1, by rw [← e p hp1, hkh]; exact hp2⟩
      · obtain ⟨p, hp1, hp2⟩ := hr.onto k (by omega)
        refine ⟨p, hp1, ?_⟩
        rw [← e p hp1, if_neg (fun hi => hkh (by rw [← hp2]; exact hb p hp1 hi)), hp2]
  · rw [hlen] at hk
    rw [← memN_congr e]
    rw [List.getElem?_set]
    by_cases hkh : h = k
    · subst hkh
      rw [if_pos rfl, if_pos (by simp; omega)]
      have hsz := hr.szs h hh
      rw [hsh] at hsz
      simp only [Option.some.injEq] at hsz ⊢
      omega
    · rw [if_neg hkh]
      by_cases hkn : k = sz.length
      · subst hkn
        rw [List.getElem?_append_right (Nat.le_refl _), memN_new hr.run.rng]
        simp
      · rw [List.getElem?_append_left (by omega), hr.szs k (by omega), memN_else hkn (fun e => hkh e.symm) hb]

theorem RunS.take {inn hp ga inn1 inn2 : Nat → Nat} {sz : List Int} {b c h : Nat} (hr : RunS s n inn hp ga sz) (hb : ∀ p, p < n → inn p = b → hp p = h) (hc : ∀ p, p < n → inn p = c → hp p = h) (hbc : b ≠ c)
    (hl : (memN n inn b).length ≤ (memN n inn c).length) (hb0 : 0 < (memN n inn b).length) (h1 : SplitBy s n (· ∈ memN n inn b) inn inn1) (h2 : SplitBy s n (· ∈ memN n (fun p => if p ∈ memN n inn b then sz.length else hp p) h) inn1 inn2) {sh : Int} (hsh : sz[h]? = some sh) :
    RunS s n inn2 (fun p => if p ∈ memN n inn b then sz.length else hp p) (fun p => if p ∈ memN n inn b then ga p + 1 else ga p) ((sz ++ [((memN n inn b).length : Int)]).set h (sh - (memN n inn b).length)) :=
  hr.takeH hb (half hb hc hbc hl) hb0 h1 h2 hsh

/-- Every heap has one block. -/
theorem RunS.done {inn hp ga : Nat → Nat} {sz : List Int} (hr : RunS s n inn hp ga sz) (h : ∀ p q, p < n → q < n → hp p = hp q → inn p = inn q) : Big s n (fun p => (inn p : Int)) := hr.run.done h
/-- So many heaps at most as states. -/
theorem RunS.few {inn hp ga : Nat → Nat} {sz : List Int} (hr : RunS s n inn hp ga sz) : sz.length ≤ n := heaps_le hr.onto
end
end Pl
end Go.Proofs.YtopnedihknjjfaaGreatDoor
