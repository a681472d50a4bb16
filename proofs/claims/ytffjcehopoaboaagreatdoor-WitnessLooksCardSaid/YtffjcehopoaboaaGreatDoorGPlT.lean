/-
  Lemmas.
-/
import Derived.Test.YtffjcehopoaboaaGreatDoorPlS
import Derived.Test.YtffjcehopoaboaaGreatDoorGPl8
namespace Go.Proofs.YtffjcehopoaboaaGreatDoor
namespace Pl
section
variable {s : Lts} {n : Nat}
def MetP (s : Lts) (n : Nat) (C : Nat → Int) (p q : Nat) : Prop := ∀ l t, t < n → stp s p l t → ∃ u, u < n ∧ stp s q l u ∧ C u = C t
theorem Big.met {C : Nat → Int} (h : Big s n C) {p q : Nat} (hp : p < n) (hq : q < n) (e : C p = C q) : MetP s n C p q := fun l t ht hs => by
  obtain ⟨u, hu, h1, h2⟩ := (h.bis p q hp hq e).1 l t ht hs
  exact ⟨u, hu, h1, h2.symm⟩
theorem Big.iso {t : Lts} {C D : Nat → Int} {f g : Nat → Nat} (h : Big s n C) (h' : Big t n D) (hf : ∀ p, p < n → f p < n ∧ g (f p) = p) (hg : ∀ p, p < n → g p < n ∧ f (g p) = p)
    (he : ∀ p l u, p < n → u < n → (stp s p l u ↔ stp t (f p) l (f u))) {p q : Nat} (hp : p < n) (hq : q < n) : C p = C q ↔ D (f p) = D (f q) := by
  have he' : ∀ p l u, p < n → u < n → (stp t p l u ↔ stp s (g p) l (g u)) := fun p l u hp hu => by
    rw [he _ l _ (hg p hp).1 (hg u hu).1, (hg p hp).2, (hg u hu).2]
  constructor
  · intro e
    refine h'.all (fun a b => C (g a) = C (g b)) (fun a b ha hb hab => ?_) (f p) (f q) (hf p hp).1 (hf q hq).1 (by rw [(hf p hp).2, (hf q hq).2]; exact e)
    obtain ⟨c1, c2⟩ := h.bis (g a) (g b) (hg a ha).1 (hg b hb).1 hab
    refine ⟨fun l x hx hs => ?_, fun l x hx hs => ?_⟩
    · obtain ⟨u, hu, s1, e1⟩ := c1 l (g x) (hg x hx).1 ((he' a l x ha hx).1 hs)
      exact ⟨f u, (hf u hu).1, (he' b l _ hb (hf u hu).1).2 (by rw [(hf u hu).2]; exact s1), (by show C _ = C _; rw [(hf u hu).2]; exact e1)⟩
    · obtain ⟨u, hu, s1, e1⟩ := c2 l (g x) (hg x hx).1 ((he' b l x hb hx).1 hs)
      exact ⟨f u, (hf u hu).1, (he' a l _ ha (hf u hu).1).2 (by rw [(hf u hu).2]; exact s1), (by show C _ = C _; rw [(hf u hu).2]; exact e1)⟩
  · intro e
    refine h.all (fun a b => D (f a) = D (f b)) (fun a b ha hb hab => ?_) p q hp hq e
    obtain ⟨c1, c2⟩ := h'.bis (f a) (f b) (hf a ha).1 (hf b hb).1 hab
    refine ⟨fun l x hx hs => ?_, fun l x hx hs => ?_⟩
    · obtain ⟨u, hu, s1, e1⟩ := c1 l (f x) (hf x hx).1 ((he a l x ha hx).1 hs)
      exact ⟨g u, (hg u hu).1, (he b l _ hb (hg u hu).1).2 (by rw [(hg u hu).2]; exact s1), (by show D _ = D _; rw [(hg u hu).2]; exact e1)⟩
    · obtain ⟨u, hu, s1, e1⟩ := c2 l (f x) (hf x hx).1 ((he b l x hb hx).1 hs)
      exact ⟨g u, (hg u hu).1, (he a l _ ha (hg u hu).1).2 (by rw [(hg u hu).2]; exact s1), (by show D _ = D _; rw [(hg u hu).2]; exact e1)⟩
def smallB (b h : Int) : Bool := !(decide (b = 0)) && !(decide (b = h)) && decide (b ≤ h - b)
inductive Played (s : Lts) (n : Nat) (T : List (List Int)) : Nat → (Nat → Nat) → (Nat → Nat) → Nat → Prop where
  | first {inn inn' hp : Nat → Nat} (hn : 0 < n) (hT : T[0]? = some ((List.range n).map Int.ofNat)) (h0 : ∀ p q, p < n → q < n → inn p = inn q) (h : SplitBy s n (fun _ => True) inn inn') (he : ∀ q, q < n → hp q = 0) : Played s n T 1 inn' hp 1
  | next {k : Nat} {inn hp inn1 inn2 hp2 : Nat → Nat} {H p : Nat} (h : Played s n T k inn hp H) (hpn : p < n) (hT : T[k]? = some ((memN n inn (inn p)).map Int.ofNat)) (hs : smallB (memN n inn (inn p)).length (memN n hp (hp p)).length = true)
      (h1 : SplitBy s n (fun t => inn t = inn p) inn inn1) (h2 : SplitBy s n (fun t => hp t = hp p ∧ inn t ≠ inn p) inn1 inn2) (he : ∀ q, q < n → hp2 q = if inn q = inn p then H else hp q) : Played s n T (k + 1) inn2 hp2 (H + 1)
def MayB (n : Nat) (inn hp : Nat → Nat) (l : List Int) : Prop := ∃ p, p < n ∧ l = (memN n inn (inn p)).map Int.ofNat ∧ smallB (memN n inn (inn p)).length (memN n hp (hp p)).length = true
def PlayBad (s : Lts) (n : Nat) (T : List (List Int)) : Prop :=
  n = 0 ∨ T[0]? ≠ some ((List.range n).map Int.ofNat) ∨ (∃ (k : Nat) (inn hp : Nat → Nat) (H : Nat) (L : List Int), Played s n T k inn hp H ∧ T[k]? = some L ∧ ¬ MayB n inn hp L) ∨
  ∃ (inn hp : Nat → Nat) (H p q : Nat), Played s n T T.length inn hp H ∧ p < n ∧ q < n ∧ hp p = hp q ∧ inn p ≠ inn q
end
end Pl
end Go.Proofs.YtffjcehopoaboaaGreatDoor
namespace Go.Proofs.YtffjcehopoaboaaGreatDoor
namespace Pl
def tauOf (s : Lts) (q : Int) : Lts := ⟨s.st, s.lb, q, s.es.filter (fun x => x.2.1 == 0)⟩
theorem tauOf_right {s : Lts} (h : s.Right) {q : Int} (h0 : 0 ≤ q) (h1 : q < s.st) : (tauOf s q).Right := by
  have hr := h.st0
  refine ⟨?_, fun x hx => h.edges x (List.mem_filter.1 hx).1⟩
  unfold HeadBad tauOf
  have := List.length_filter_le (fun x : E => x.2.1 == 0) s.es
  simp only
  omega
theorem mem_tauOf {s : Lts} {q x : Int} {y : S} : y ∈ (tauOf s q).outs x ↔ y ∈ s.outs x ∧ y.1 = 0 := by
  rw [mem_outs, mem_outs]
  unfold tauOf
  simp
end Pl
end Go.Proofs.YtffjcehopoaboaaGreatDoor
namespace Go.Proofs.YtffjcehopoaboaaGreatDoor
namespace Pl
section
variable {s : Lts} {n : Nat}
theorem SplitBy.congr {X Y : Nat → Prop} {inn inn' : Nat → Nat} (h : SplitBy s n X inn inn') (e : ∀ t, t < n → (X t ↔ Y t)) : SplitBy s n Y inn inn' := fun p q hp hq => by
  rw [h p q hp hq]
  have key : ∀ l p, intoX s n l X p ↔ intoX s n l Y p := fun l p => by
    unfold intoX
    constructor
    · rintro ⟨t, ht, hx, hs⟩; exact ⟨t, ht, (e t ht).1 hx, hs⟩
    · rintro ⟨t, ht, hx, hs⟩; exact ⟨t, ht, (e t ht).2 hx, hs⟩
  constructor
  · rintro ⟨h1, h2⟩; exact ⟨h1, fun l => by rw [← key, ← key]; exact h2 l⟩
  · rintro ⟨h1, h2⟩; exact ⟨h1, fun l => by rw [key, key]; exact h2 l⟩
theorem memN_congr {f g : Nat → Nat} (h : ∀ p, p < n → f p = g p) (b : Nat) : memN n f b = memN n g b := by
  unfold memN
  apply List.filter_congr
  intro x hx
  rw [h x (by simpa using hx)]
theorem Run.congr {inn hp hp' : Nat → Nat} {H : Nat} (h : Run s n inn hp H) (e : ∀ p, p < n → hp p = hp' p) : Run s n inn hp' H where
  sub p q hpn hqn he := by rw [← e p hpn, ← e q hqn]; exact h.sub p q hpn hqn he
  stab p q hpn hqn he l k := by
    have key : ∀ p, intoX s n l (fun t => hp t = k) p ↔ intoX s n l (fun t => hp' t = k) p := fun p => by
      unfold intoX
      constructor
      · rintro ⟨t, ht, hx, hs⟩; exact ⟨t, ht, by show hp' t = k; rw [← e t ht]; exact hx, hs⟩
      · rintro ⟨t, ht, hx, hs⟩; exact ⟨t, ht, by show hp t = k; rw [e t ht]; exact hx, hs⟩
    rw [← key, ← key]
    exact h.stab p q hpn hqn he l k
  all := h.all
  rng p hpn := by rw [← e p hpn]; exact h.rng p hpn
theorem Gau.congr {hp hp' ga ga' : Nat → Nat} (h : Gau n hp ga) (e : ∀ p, p < n → hp p = hp' p) (e2 : ∀ p, p < n → ga p = ga' p) : Gau n hp' ga' := fun p hpn => by
  rw [← e2 p hpn, ← e p hpn, ← memN_congr e]
  exact h p hpn
structure RunS (s : Lts) (n : Nat) (inn hp ga : Nat → Nat) (sz : List Int) : Prop where
  run : Run s n inn hp sz.length
  gau : Gau n hp ga
  onto : ∀ k, k < sz.length → ∃ p, p < n ∧ hp p = k
  szs : ∀ k, k < sz.length → sz[k]? = some ((memN n hp k).length : Int)
theorem Gau.small {hp ga : Nat → Nat} (h : Gau n hp ga) {p : Nat} (hpn : p < n) : ga p ≤ n := by
  obtain ⟨h1, h2⟩ := h.le hpn
  have := Nat.lt_two_pow_self (n := ga p - 1)
  omega
theorem RunS.takeH {inn hp ga inn1 inn2 : Nat → Nat} {sz : List Int} {b h : Nat} (hr : RunS s n inn hp ga sz) (hb : ∀ p, p < n → inn p = b → hp p = h)
    (hhalf : 2 * (memN n inn b).length ≤ (memN n hp h).length) (hb0 : 0 < (memN n inn b).length) (h1 : SplitBy s n (· ∈ memN n inn b) inn inn1) (h2 : SplitBy s n (· ∈ memN n (fun p => if p ∈ memN n inn b then sz.length else hp p) h) inn1 inn2) {sh : Int} (hsh : sz[h]? = some sh) :
    RunS s n inn2 (fun p => if p ∈ memN n inn b then sz.length else hp p) (fun p => if p ∈ memN n inn b then ga p + 1 else ga p) ((sz ++ [((memN n inn b).length : Int)]).set h (sh - (memN n inn b).length)) := by
  have hh : h < sz.length := (List.getElem?_eq_some_iff.1 hsh).1
  have e : ∀ p, p < n → (if inn p = b then sz.length else hp p) = (if p ∈ memN n inn b then sz.length else hp p) := fun p hp => by
    by_cases hi : inn p = b
    · rw [if_pos hi, if_pos (mem_memN.2 ⟨hp, hi⟩)]
    · rw [if_neg hi, if_neg (fun hm => hi (mem_memN.1 hm).2)]
  have e2 : ∀ p, p < n → (if inn p = b then ga p + 1 else ga p) = (if p ∈ memN n inn b then ga p + 1 else ga p) := fun p hp => by
    by_cases hi : inn p = b
    · rw [if_pos hi, if_pos (mem_memN.2 ⟨hp, hi⟩)]
    · rw [if_neg hi, if_neg (fun hm => hi (mem_memN.1 hm).2)]
  have hlen : ((sz ++ [((memN n inn b).length : Int)]).set h (sh - (memN n inn b).length)).length = sz.length + 1 := by simp
  have hs1 : SplitBy s n (fun t => inn t = b) inn inn1 := h1.congr (fun t ht => by rw [mem_memN]; simp [ht])
  have hs2 : SplitBy s n (fun t => hp t = h ∧ inn t ≠ b) inn1 inn2 := h2.congr (fun t ht => by
    rw [mem_memN, ← e t ht]
    by_cases hi : inn t = b
    · rw [if_pos hi]; simp [hi]; omega
    · rw [if_neg hi]; simp [hi, ht])
  have hrest := memN_rest (n := n) (inn := inn) (hp := hp) (H := sz.length) (b := b) (h := h) hh hb
  refine ⟨by rw [hlen]; exact (hr.run.take hb hs1 hs2).congr e, (hr.gau.take hr.run.rng hb hhalf).congr e e2, fun k hk => ?_, fun k hk => ?_⟩
  · rw [hlen] at hk
    by_cases hkn : k = sz.length
    · obtain ⟨p, hp⟩ : ∃ p, p ∈ memN n inn b := ⟨_, List.getElem_mem hb0⟩
      exact ⟨p, (mem_memN.1 hp).1, by rw [if_pos hp, hkn]⟩
    · by_cases hkh : k = h
      · have hpos : 0 < (memN n (fun p => if inn p = b then sz.length else hp p) h).length := by omega
        obtain ⟨p, hp⟩ : ∃ p, p ∈ memN n (fun p => if inn p = b then sz.length else hp p) h := ⟨_, List.getElem_mem hpos⟩
        obtain ⟨hp1, hp2⟩ := mem_memN.1 hp
        exact ⟨p, hp1, by rw [← e p hp1, hkh]; exact hp2⟩
      · obtain ⟨p, hp1, hp2⟩ := hr.onto k (by omega)
        refine ⟨p, hp1, ?_⟩
        rw [← e p hp1, if_neg (fun hi => hkh (by rw [← hp2]; exact hb p hp1 hi)), hp2]
  · rw [hlen] at hk
    rw [← memN_congr e]
    rw [List.getElem?_set]
    by_cases hkh : h = k
    · subst hkh
      rw [if_pos rfl, if_pos (by simp; omega)]
      have hsz := hr.szs h hh
      rw [hsh] at hsz
      simp only [Option.some.injEq] at hsz ⊢
      omega
    · rw [if_neg hkh]
      by_cases hkn : k = sz.length
      · subst hkn
        rw [List.getElem?_append_right (Nat.le_refl _), memN_new hr.run.rng]
        simp
      · rw [List.getElem?_append_left (by omega), hr.szs k (by omega), memN_else hkn (fun e => hkh e.symm) hb]
theorem RunS.take {inn hp ga inn1 inn2 : Nat → Nat} {sz : List Int} {b c h : Nat} (hr : RunS s n inn hp ga sz) (hb : ∀ p, p < n → inn p = b → hp p = h) (hc : ∀ p, p < n → inn p = c → hp p = h) (hbc : b ≠ c)
    (hl : (memN n inn b).length ≤ (memN n inn c).length) (hb0 : 0 < (memN n inn b).length) (h1 : SplitBy s n (· ∈ memN n inn b) inn inn1) (h2 : SplitBy s n (· ∈ memN n (fun p => if p ∈ memN n inn b then sz.length else hp p) h) inn1 inn2) {sh : Int} (hsh : sz[h]? = some sh) :
    RunS s n inn2 (fun p => if p ∈ memN n inn b then sz.length else hp p) (fun p => if p ∈ memN n inn b then ga p + 1 else ga p) ((sz ++ [((memN n inn b).length : Int)]).set h (sh - (memN n inn b).length)) :=
  hr.takeH hb (half hb hc hbc hl) hb0 h1 h2 hsh
theorem RunS.done {inn hp ga : Nat → Nat} {sz : List Int} (hr : RunS s n inn hp ga sz) (h : ∀ p q, p < n → q < n → hp p = hp q → inn p = inn q) : Big s n (fun p => (inn p : Int)) := hr.run.done h
end
end Pl
end Go.Proofs.YtffjcehopoaboaaGreatDoor
namespace Go.Proofs.YtffjcehopoaboaaGreatDoor
namespace Pl
abbrev B3 := Nat × Nat × Nat
structure PI (n : Nat) (el pl inn : Nat → Nat) (bl : List B3) : Prop where
  hel : ∀ i, i < n → el i < n ∧ pl (el i) = i
  hpl : ∀ e, e < n → pl e < n ∧ el (pl e) = e
  blk : ∀ (b : Nat) (x : B3), bl[b]? = some x → x.1 < x.2.1 ∧ x.2.1 ≤ n ∧ x.1 + x.2.2 ≤ x.2.1
  hin : ∀ e, e < n → ∃ x : B3, bl[inn e]? = some x ∧ x.1 ≤ pl e ∧ pl e < x.2.1
  cov : ∀ (b : Nat) (x : B3) (i : Nat), bl[b]? = some x → x.1 ≤ i → i < x.2.1 → inn (el i) = b
def Mkd (pl inn : Nat → Nat) (bl : List B3) (e : Nat) : Prop := ∃ x : B3, bl[inn e]? = some x ∧ pl e < x.1 + x.2.2
section
variable {n : Nat} {el pl inn : Nat → Nat} {bl : List B3}
theorem PI.lt (h : PI n el pl inn bl) {e : Nat} (he : e < n) : inn e < bl.length := by
  obtain ⟨x, hx, _⟩ := h.hin e he
  exact (List.getElem?_eq_some_iff.1 hx).1
def swE (el : Nat → Nat) (i k : Nat) : Nat → Nat := upd (upd el i (el k)) k (el i)
def swP (el pl : Nat → Nat) (i k : Nat) : Nat → Nat := upd (upd pl (el k) i) (el i) k
structure Spl (n : Nat) (pl inn inn' : Nat → Nat) (bl bl' : List B3) (b : Nat) : Prop where
  far : ∀ e, e < n → inn e ≠ b → inn' e = inn e
  near : ∀ e, e < n → inn e = b → inn' e = b ∨ inn' e = bl.length
  same : ∀ e f, e < n → f < n → inn e = b → inn f = b → (inn' e = inn' f ↔ (Mkd pl inn bl e ↔ Mkd pl inn bl f))
  mks : ∀ e, e < n → (Mkd pl inn' bl' e ↔ Mkd pl inn bl e ∧ inn e ≠ b)
  more : bl.length ≤ bl'.length
  else_ : ∀ c, c ≠ b → c < bl.length → bl'[c]? = bl[c]?
def newB (x : B3) : B3 := if x.2.2 ≤ x.2.1 - x.1 - x.2.2 then (x.1, x.1 + x.2.2, 0) else (x.1 + x.2.2, x.2.1, 0)
def oldB (x : B3) : B3 := if x.2.2 ≤ x.2.1 - x.1 - x.2.2 then (x.1 + x.2.2, x.2.1, 0) else (x.1, x.1 + x.2.2, 0)
theorem nodup_at {l : List Nat} (h : l.Nodup) {i j : Nat} {x : Nat} (hi : l[i]? = some x) (hj : l[j]? = some x) : i = j := by
  obtain ⟨hil, hi⟩ := List.getElem?_eq_some_iff.1 hi
  obtain ⟨hjl, hj⟩ := List.getElem?_eq_some_iff.1 hj
  have hp := List.pairwise_iff_getElem.1 h
  rcases Nat.lt_trichotomy i j with h1 | h1 | h1
  · exact absurd (hi.trans hj.symm) (hp i j hil hjl h1)
  · exact h1
  · exact absurd (hj.trans hi.symm) (hp j i hjl hil h1)
structure SI (n : Nat) (X : Nat → Prop) (inn0 pl inn : Nat → Nat) (bl : List B3) (ms : List Nat) (k : Nat) : Prop where
  same : ∀ p q, p < n → q < n → (inn p = inn q ↔ inn0 p = inn0 q ∧ (inn0 p ∈ ms.take k → (X p ↔ X q)))
  mks : ∀ p, p < n → (Mkd pl inn bl p ↔ X p ∧ inn0 p ∉ ms.take k)
  rest : ∀ j b, k ≤ j → ms[j]? = some b → b < bl.length ∧ ∀ p, p < n → (inn p = b ↔ inn0 p = b)
theorem SI.start {X : Nat → Prop} {ms : List Nat} (hX : ∀ p, p < n → (Mkd pl inn bl p ↔ X p)) (hms : ∀ b ∈ ms, b < bl.length) : SI n X inn pl inn bl ms 0 where
  same p q _ _ := by simp
  mks p hp := by simp [hX p hp]
  rest j b _ hb := ⟨hms b (List.mem_of_getElem? hb), fun _ _ => Iff.rfl⟩
theorem SI.step {X : Nat → Prop} {inn0 inn' : Nat → Nat} {bl' : List B3} {ms : List Nat} {k b : Nat} (h : SI n X inn0 pl inn bl ms k) (hP : PI n el pl inn bl) (hnd : ms.Nodup) (hb : ms[k]? = some b) (hs : Spl n pl inn inn' bl bl' b) : SI n X inn0 pl inn' bl' ms (k + 1) := by
  obtain ⟨hkl, hkb⟩ := List.getElem?_eq_some_iff.1 hb
  have htk : ∀ z, z ∈ ms.take (k + 1) ↔ z ∈ ms.take k ∨ z = b := fun z => by
    rw [List.take_succ_eq_append_getElem hkl, hkb]; simp
  have hnb : b ∉ ms.take k := fun hm => by
    obtain ⟨j, hj, e⟩ := List.getElem_of_mem hm
    rw [List.getElem_take] at e
    rw [List.length_take] at hj
    have := nodup_at hnd (i := j) (j := k) (x := b) (by rw [List.getElem?_eq_getElem (by omega), e]) hb
    omega
  have hrb := (h.rest k b (Nat.le_refl _) hb)
  have mk : ∀ p, p < n → inn0 p = b → (Mkd pl inn bl p ↔ X p) := fun p hp e => by
    rw [h.mks p hp, e]; simp [hnb]
  refine ⟨fun p q hp hq => ?_, fun p hp => ?_, fun j c hj hc => ?_⟩
  · rw [htk]
    by_cases e1 : inn0 p = b
    · have i1 := (hrb.2 p hp).2 e1
      by_cases e2 : inn0 q = b
      · have i2 := (hrb.2 q hq).2 e2
        rw [hs.same p q hp hq i1 i2, mk p hp e1, mk q hq e2]
        simp [e1, e2]
      · have i2 : inn q ≠ b := fun e => e2 ((hrb.2 q hq).1 e)
        rw [hs.far q hq i2]
        constructor
        · intro e
          rcases hs.near p hp i1 with e3 | e3
          · exact absurd (e.symm.trans e3) i2
          · have := hP.lt hq; omega
        · rintro ⟨e, _⟩; exact absurd (e.symm.trans e1) e2
    · have i1 : inn p ≠ b := fun e => e1 ((hrb.2 p hp).1 e)
      rw [hs.far p hp i1]
      by_cases e2 : inn0 q = b
      · have i2 := (hrb.2 q hq).2 e2
        constructor
        · intro e
          rcases hs.near q hq i2 with e3 | e3
          · exact absurd (e.trans e3) i1
          · have := hP.lt hp; omega
        · rintro ⟨e, _⟩; exact absurd (e.trans e2) e1
      · have i2 : inn q ≠ b := fun e => e2 ((hrb.2 q hq).1 e)
        rw [hs.far q hq i2, h.same p q hp hq]
        simp [e1]
  · rw [hs.mks p hp, h.mks p hp, htk, not_or]
    rw [show (inn p ≠ b) ↔ (inn0 p ≠ b) from not_congr (hrb.2 p hp)]
    exact and_assoc
  · obtain ⟨h1, h2⟩ := h.rest j c (by omega) hc
    have hcb : c ≠ b := fun e => by
      have := nodup_at hnd (i := j) (j := k) (x := b) (by rw [hc, e]) hb
      omega
    refine ⟨Nat.lt_of_lt_of_le h1 hs.more, fun p hp => ?_⟩
    rw [← h2 p hp]
    by_cases e1 : inn p = b
    · rcases hs.near p hp e1 with e2 | e2
      · rw [e1, e2]
      · constructor
        · intro e; omega
        · intro e; exact absurd (e.symm.trans e1) hcb
    · rw [hs.far p hp e1]
theorem SI.done {X : Nat → Prop} {inn0 : Nat → Nat} {ms : List Nat} (h : SI n X inn0 pl inn bl ms ms.length) (hX : ∀ p, p < n → X p → inn0 p ∈ ms) :
    (∀ p q, p < n → q < n → (inn p = inn q ↔ inn0 p = inn0 q ∧ (X p ↔ X q))) ∧ ∀ p, p < n → ¬ Mkd pl inn bl p := by
  have h1 := h.same; have h2 := h.mks
  rw [List.take_length] at h1 h2
  refine ⟨fun p q hp hq => ?_, fun p hp hm => ?_⟩
  · rw [h1 p q hp hq]
    constructor
    · rintro ⟨e, h3⟩
      refine ⟨e, ?_⟩
      by_cases hm : inn0 p ∈ ms
      · exact h3 hm
      · exact ⟨fun hx => absurd (hX p hp hx) hm, fun hx => absurd (by rw [e]; exact hX q hq hx) hm⟩
    · rintro ⟨e, h3⟩; exact ⟨e, fun _ => h3⟩
  · obtain ⟨a1, a2⟩ := (h2 p hp).1 hm
    exact a2 (hX p hp a1)
def mkB (bl : List B3) (k : Nat) : List Nat := (List.range k).filter (fun b => decide (∃ x, bl[b]? = some x ∧ 0 < x.2.2))
def elRow (el : Nat → Nat) (x : B3) : List Nat := (List.range' x.1 (x.2.1 - x.1)).map el
end
end Pl
end Go.Proofs.YtffjcehopoaboaaGreatDoor
