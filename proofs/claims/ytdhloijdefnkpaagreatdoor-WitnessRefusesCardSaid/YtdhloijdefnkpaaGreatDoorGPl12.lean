/-
  Lemmas.
-/
import Derived.Test.YtdhloijdefnkpaaGreatDoorGPl3
namespace Go.Proofs.YtdhloijdefnkpaaGreatDoor
namespace Pl
theorem nodup_sub : ∀ (L M : List Nat), L.Nodup → (∀ x ∈ L, x ∈ M) → L.length ≤ M.length
  | [], _, _, _ => by simp
  | x :: L, M, hn, hs => by
    have hx := List.nodup_cons.1 hn
    have hm := hs x List.mem_cons_self
    have ih := nodup_sub L (M.erase x) hx.2 (fun y hy => (List.mem_erase_of_ne (fun e : y = x => hx.1 (e ▸ hy))).2 (hs y (List.mem_cons_of_mem _ hy)))
    rw [List.length_erase_of_mem hm] at ih
    have := List.length_pos_of_mem hm
    simp; omega
section
variable {t : Lts}
theorem taus_nodup (hr : t.Right) (hs : Srt ltE t.es) (k : Nat) : (taus t k).Nodup := by
  have h0 : ∀ y ∈ t.outs (k : Int), 0 ≤ y.1 ∧ 0 ≤ y.2 := fun y hy => by
    have := offB_false.1 (hr.edges _ (mem_outs.1 hy)); simp only at this; omega
  have h1 := outs_srt hs (k : Int)
  unfold taus List.Nodup
  rw [List.pairwise_map]
  have h2 : ((t.outs (k : Int)).takeWhile (fun y => y.1 == 0)).Pairwise (fun a b => ltS a b = true) := List.Pairwise.sublist (List.takeWhile_sublist _) h1
  refine List.Pairwise.imp_of_mem ?_ h2
  intro a b ha hb hab e
  have ma := (takeWhile_mem h1 (fun y hy => (h0 y hy).1) a).1 ha
  have mb := (takeWhile_mem h1 (fun y hy => (h0 y hy).1) b).1 hb
  rw [ltS_iff] at hab
  have qa := h0 a ma.1; have qb := h0 b mb.1
  omega
def Wt (t : Lts) (D : List Nat) (k : Nat) : Nat := ((taus t k).filter (fun y => !decide (y ∈ D))).length
theorem Wt_nil (k : Nat) : Wt t [] k = (taus t k).length := by
  unfold Wt
  rw [List.filter_eq_self.2]
  intro y _; simp
theorem Wt_zero (hr : t.Right) (hs : Srt ltE t.es) {D : List Nat} {k : Nat} : Wt t D k = 0 ↔ ∀ y, tau t k y → y ∈ D := by
  unfold Wt
  rw [List.length_eq_zero_iff, List.filter_eq_nil_iff]
  constructor
  · intro h y hy
    have := h y ((mem_taus hr hs).2 hy)
    simpa using this
  · intro h y hy
    have := h y ((mem_taus hr hs).1 hy)
    simp [this]
theorem filt_split {D : List Nat} {k : Nat} (hk : k ∉ D) : ∀ (l : List Nat), l.Nodup →
    (l.filter (fun y => !decide (y ∈ D))).length = (l.filter (fun y => !decide (y ∈ D ++ [k]))).length + (if k ∈ l then 1 else 0)
  | [], _ => by simp
  | x :: l, hn => by
    have hx := List.nodup_cons.1 hn
    have ih := filt_split hk l hx.2
    by_cases e : x = k
    · subst e
      have h1 : (!decide (x ∈ D)) = true := by simp [hk]
      have h2 : (!decide (x ∈ D ++ [x])) = false := by simp
      rw [List.filter_cons, List.filter_cons, h1, h2]
      rw [if_neg hx.1] at ih
      simp [ih]
    · have h1 : (k ∈ x :: l) ↔ k ∈ l := by
        rw [List.mem_cons]
        exact ⟨fun h => h.resolve_left (fun e2 => e e2.symm), .inr⟩
      have h2 : (x ∈ D ++ [k]) ↔ x ∈ D := by
        rw [List.mem_append, List.mem_singleton]
        exact ⟨fun h => h.resolve_right e, .inl⟩
      rw [List.filter_cons, List.filter_cons]
      simp only [h1, h2]
      by_cases h3 : x ∈ D
      · simp only [h3, decide_true, Bool.not_true, Bool.false_eq_true, if_false]; exact ih
      · simp only [h3, decide_false, Bool.not_false, if_true, List.length_cons]; omega
theorem Wt_add (hr : t.Right) (hs : Srt ltE t.es) {D : List Nat} {k : Nat} (hk : k ∉ D) (j : Nat) [Decidable (tau t j k)] : Wt t D j = Wt t (D ++ [k]) j + (if tau t j k then 1 else 0) := by
  have h := filt_split hk (taus t j) (taus_nodup hr hs j)
  unfold Wt
  rw [h]
  congr 1
  by_cases h2 : tau t j k
  · rw [if_pos ((mem_taus hr hs).2 h2), if_pos h2]
  · rw [if_neg (fun h3 => h2 ((mem_taus hr hs).1 h3)), if_neg h2]
structure IsNext (t : Lts) (m : Nat) (D : List Nat) (k : Nat) : Prop where
  lt : k < m
  new : k ∉ D
  all : Wt t D k = 0
  first : ∀ j, j < k → j ∈ D ∨ Wt t D j ≠ 0
inductive OrdL (t : Lts) (m : Nat) : List Nat → Prop
  | nil : OrdL t m []
  | step {D : List Nat} {k : Nat} : OrdL t m D → IsNext t m D k → OrdL t m (D ++ [k])
theorem IsNext.unique {m : Nat} {D : List Nat} {k k' : Nat} (h : IsNext t m D k) (h' : IsNext t m D k') : k = k' := by
  rcases Nat.lt_trichotomy k k' with h1 | h1 | h1
  · rcases h'.first k h1 with h2 | h2
    · exact absurd h2 h.new
    · exact absurd h.all h2
  · exact h1
  · rcases h.first k' h1 with h2 | h2
    · exact absurd h2 h'.new
    · exact absurd h'.all h2
theorem OrdL.unique {m : Nat} {D D' : List Nat} (h : OrdL t m D) (h' : OrdL t m D') (hl : D.length = D'.length) : D = D' := by
  induction h generalizing D' with
  | nil => cases h' with
    | nil => rfl
    | step _ _ => simp at hl
  | step h1 h2 ih => cases h' with
    | nil => simp at hl
    | step h3 h4 =>
      have := ih h3 (by simpa using hl)
      subst this
      rw [h2.unique h4]
theorem OrdL.nodup {m : Nat} {D : List Nat} (h : OrdL t m D) : D.Nodup := by
  induction h with
  | nil => simp
  | step _ h2 ih =>
    rw [List.nodup_append]
    exact ⟨ih, by simp, fun a ha b hb e => by simp at hb; subst hb; subst e; exact h2.new ha⟩
theorem OrdL.rng {m : Nat} {D : List Nat} (h : OrdL t m D) : ∀ x ∈ D, x < m := by
  induction h with
  | nil => simp
  | step _ h2 ih =>
    intro x hx
    rcases List.mem_append.1 hx with h3 | h3
    · exact ih x h3
    · simp at h3; subst h3; exact h2.lt
theorem OrdL.ahead (hr : t.Right) (hs : Srt ltE t.es) {m : Nat} {D : List Nat} (h : OrdL t m D) : ∀ (i k y : Nat), D[i]? = some k → tau t k y → y ∈ D.take i := by
  induction h with
  | nil => simp
  | @step D k' _ h2 ih =>
    intro i k y hi hy
    by_cases hlt : i < D.length
    · rw [List.getElem?_append_left hlt] at hi
      rw [List.take_append_of_le_length (by omega)]
      exact ih i k y hi hy
    · have hl := (List.getElem?_eq_some_iff.1 hi).1
      simp at hl
      obtain rfl : i = D.length := by omega
      simp at hi
      subst hi
      rw [List.take_append_of_le_length (by omega), List.take_length]
      exact (Wt_zero hr hs).1 h2.all y hy
theorem OrdL.closed (hr : t.Right) (hs : Srt ltE t.es) {m : Nat} {D : List Nat} (h : OrdL t m D) {k y : Nat} (hk : k ∈ D) (hy : tau t k y) : y ∈ D := by
  obtain ⟨i, hi⟩ := List.getElem?_of_mem hk
  exact List.mem_of_mem_take (h.ahead hr hs i k y hi hy)
theorem min_ex (P : Nat → Prop) : (∃ k, P k) → ∃ k, P k ∧ ∀ j, j < k → ¬ P j := by
  rintro ⟨k, hk⟩
  induction k using Nat.strongRecOn with
  | _ k ih =>
    by_cases h : ∃ j, j < k ∧ P j
    · obtain ⟨j, hj, hp⟩ := h
      exact ih j hj hp
    · exact ⟨k, hk, fun j hj hp => h ⟨j, hj, hp⟩⟩
theorem next_ex (hr : t.Right) (hs : Srt ltE t.es) {m : Nat} (hm : t.st = (m : Int)) {F : Nat → Int} (hF : ∀ x y, tau t x y → F y < F x) {D : List Nat} {x : Nat} (hx : x < m) (hxD : x ∉ D) : ∃ k, IsNext t m D k := by
  -- one of least rank among those that are left
  have h1 : ∃ k, k < m ∧ k ∉ D ∧ ∀ y, tau t k y → y ∈ D := by
    have key : ∀ (B : Nat) (x : Nat), x < m → x ∉ D → (F x - F x).toNat ≤ B → True := fun _ _ _ _ _ => trivial
    clear key
    -- by strong induction over how many of those left are below
    have : ∀ (c : Nat) (x : Nat), x < m → x ∉ D → ((List.range m).filter (fun z => decide (F z < F x))).length ≤ c → ∃ k, k < m ∧ k ∉ D ∧ ∀ y, tau t k y → y ∈ D := by
      intro c
      induction c with
      | zero =>
        intro x hx hxD hc
        refine ⟨x, hx, hxD, fun y hy => ?_⟩
        have hyF := hF x y hy
        have hym := (tau_lt hr hm hy).2
        have : y ∈ (List.range m).filter (fun z => decide (F z < F x)) := by simp [hym, hyF]
        have := List.length_pos_of_mem this
        omega
      | succ c ih =>
        intro x hx hxD hc
        by_cases h : ∀ y, tau t x y → y ∈ D
        · exact ⟨x, hx, hxD, h⟩
        · obtain ⟨y, hy⟩ := Classical.not_forall.1 h
          obtain ⟨hy1, hy2⟩ := Classical.not_imp.1 hy
          have hyF := hF x y hy1
          have hym := (tau_lt hr hm hy1).2
          refine ih y hym hy2 ?_
          have hsub : ((List.range m).filter (fun z => decide (F z < F y))).length + 1 ≤ ((List.range m).filter (fun z => decide (F z < F x))).length := by
            have hnd : (y :: (List.range m).filter (fun z => decide (F z < F y))).Nodup := by
              rw [List.nodup_cons]
              exact ⟨by simp, List.Nodup.sublist List.filter_sublist List.nodup_range⟩
            have := nodup_sub _ ((List.range m).filter (fun z => decide (F z < F x))) hnd (fun z hz => by
              rcases List.mem_cons.1 hz with rfl | hz
              · simp [hym, hyF]
              · simp at hz ⊢; omega)
            simpa using this
          omega
    exact this _ x hx hxD (Nat.le_refl _)
  obtain ⟨k, ⟨h2, h3, h4⟩, h5⟩ := min_ex (fun k => k < m ∧ k ∉ D ∧ Wt t D k = 0) (by
    obtain ⟨k, h2, h3, h4⟩ := h1
    exact ⟨k, h2, h3, (Wt_zero hr hs).2 h4⟩)
  refine ⟨k, h2, h3, h4, fun j hj => ?_⟩
  by_cases hjD : j ∈ D
  · exact .inl hjD
  · exact .inr (fun e => h5 j hj ⟨by omega, hjD, e⟩)
end
end Pl
end Go.Proofs.YtdhloijdefnkpaaGreatDoor
namespace Go.Proofs.YtdhloijdefnkpaaGreatDoor
namespace Pl
def nUp (xs : List Int) (i : Nat) : Nat := (dist (xs.take i)).length
end Pl
end Go.Proofs.YtdhloijdefnkpaaGreatDoor
namespace Go.Proofs.YtdhloijdefnkpaaGreatDoor
namespace Pl
section
variable {s : Lts} {n : Nat}
theorem SplitBy.congr {X Y : Nat → Prop} {inn inn' : Nat → Nat} (h : SplitBy s n X inn inn') (e : ∀ t, t < n → (X t ↔ Y t)) : SplitBy s n Y inn inn' := fun p q hp hq => by
  rw [h p q hp hq]
  have key : ∀ l p, intoX s n l X p ↔ intoX s n l Y p := fun l p => by
    unfold intoX
    constructor
    · rintro ⟨t, ht, hx, hs⟩; exact ⟨t, ht, (e t ht).1 hx, hs⟩
    · rintro ⟨t, ht, hx, hs⟩; exact ⟨t, ht, (e t ht).2 hx, hs⟩
  constructor
  · rintro ⟨h1, h2⟩; exact ⟨h1, fun l => by rw [← key, ← key]; exact h2 l⟩
  · rintro ⟨h1, h2⟩; exact ⟨h1, fun l => by rw [key, key]; exact h2 l⟩
theorem memN_congr {f g : Nat → Nat} (h : ∀ p, p < n → f p = g p) (b : Nat) : memN n f b = memN n g b := by
  unfold memN
  apply List.filter_congr
  intro x hx
  rw [h x (by simpa using hx)]
theorem Run.congr {inn hp hp' : Nat → Nat} {H : Nat} (h : Run s n inn hp H) (e : ∀ p, p < n → hp p = hp' p) : Run s n inn hp' H where
  sub p q hpn hqn he := by rw [← e p hpn, ← e q hqn]; exact h.sub p q hpn hqn he
  stab p q hpn hqn he l k := by
    have key : ∀ p, intoX s n l (fun t => hp t = k) p ↔ intoX s n l (fun t => hp' t = k) p := fun p => by
      unfold intoX
      constructor
      · rintro ⟨t, ht, hx, hs⟩; exact ⟨t, ht, by show hp' t = k; rw [← e t ht]; exact hx, hs⟩
      · rintro ⟨t, ht, hx, hs⟩; exact ⟨t, ht, by show hp t = k; rw [e t ht]; exact hx, hs⟩
    rw [← key, ← key]
    exact h.stab p q hpn hqn he l k
  all := h.all
  rng p hpn := by rw [← e p hpn]; exact h.rng p hpn
theorem Gau.congr {hp hp' ga ga' : Nat → Nat} (h : Gau n hp ga) (e : ∀ p, p < n → hp p = hp' p) (e2 : ∀ p, p < n → ga p = ga' p) : Gau n hp' ga' := fun p hpn => by
  rw [← e2 p hpn, ← e p hpn, ← memN_congr e]
  exact h p hpn
structure RunS (s : Lts) (n : Nat) (inn hp ga : Nat → Nat) (sz : List Int) : Prop where
  run : Run s n inn hp sz.length
  gau : Gau n hp ga
  onto : ∀ k, k < sz.length → ∃ p, p < n ∧ hp p = k
  szs : ∀ k, k < sz.length → sz[k]? = some ((memN n hp k).length : Int)
theorem Gau.small {hp ga : Nat → Nat} (h : Gau n hp ga) {p : Nat} (hpn : p < n) : ga p ≤ n := by
  obtain ⟨h1, h2⟩ := h.le hpn
  have := Nat.lt_two_pow_self (n := ga p - 1)
  omega
theorem RunS.begin {inn : Nat → Nat} (hn : 0 < n) (h : SplitBy s n (· ∈ List.range n) (fun _ => 0) inn) : RunS s n inn (fun _ => 0) (fun p => if p ∈ List.range n then 0 + 1 else 0) [(n : Int)] where
  run := Run.begin (inn := fun _ => 0) (fun _ _ _ _ => rfl) (h.congr (fun t ht => by simpa using ht))
  gau := Gau.begin.congr (fun _ _ => rfl) (fun p hp => by simp [hp])
  onto k hk := ⟨0, hn, by simp at hk; omega⟩
  szs k hk := by
    have : k = 0 := by simp at hk; omega
    subst this
    have e : memN n (fun _ => 0) 0 = List.range n := by
      unfold memN
      exact List.filter_eq_self.2 (fun a _ => by simp)
    rw [e]; simp
theorem RunS.takeH {inn hp ga inn1 inn2 : Nat → Nat} {sz : List Int} {b h : Nat} (hr : RunS s n inn hp ga sz) (hb : ∀ p, p < n → inn p = b → hp p = h)
    (hhalf : 2 * (memN n inn b).length ≤ (memN n hp h).length) (hb0 : 0 < (memN n inn b).length) (h1 : SplitBy s n (· ∈ memN n inn b) inn inn1) (h2 : SplitBy s n (· ∈ memN n (fun p => if p ∈ memN n inn b then sz.length else hp p) h) inn1 inn2) {sh : Int} (hsh : sz[h]? = some sh) :
    RunS s n inn2 (fun p => if p ∈ memN n inn b then sz.length else hp p) (fun p => if p ∈ memN n inn b then ga p + 1 else ga p) ((sz ++ [((memN n inn b).length : Int)]).set h (sh - (memN n inn b).length)) := by
  have hh : h < sz.length := (List.getElem?_eq_some_iff.1 hsh).1
  have e : ∀ p, p < n → (if inn p = b then sz.length else hp p) = (if p ∈ memN n inn b then sz.length else hp p) := fun p hp => by
    by_cases hi : inn p = b
    · rw [if_pos hi, if_pos (mem_memN.2 ⟨hp, hi⟩)]
    · rw [if_neg hi, if_neg (fun hm => hi (mem_memN.1 hm).2)]
  have e2 : ∀ p, p < n → (if inn p = b then ga p + 1 else ga p) = (if p ∈ memN n inn b then ga p + 1 else ga p) := fun p hp => by
    by_cases hi : inn p = b
    · rw [if_pos hi, if_pos (mem_memN.2 ⟨hp, hi⟩)]
    · rw [if_neg hi, if_neg (fun hm => hi (mem_memN.1 hm).2)]
  have hlen : ((sz ++ [((memN n inn b).length : Int)]).set h (sh - (memN n inn b).length)).length = sz.length + 1 := by simp
  have hs1 : SplitBy s n (fun t => inn t = b) inn inn1 := h1.congr (fun t ht => by rw [mem_memN]; simp [ht])
  have hs2 : SplitBy s n (fun t => hp t = h ∧ inn t ≠ b) inn1 inn2 := h2.congr (fun t ht => by
    rw [mem_memN, ← e t ht]
    by_cases hi : inn t = b
    · rw [if_pos hi]; simp [hi]; omega
    · rw [if_neg hi]; simp [hi, ht])
  have hrest := memN_rest (n := n) (inn := inn) (hp := hp) (H := sz.length) (b := b) (h := h) hh hb
  refine ⟨by rw [hlen]; exact (hr.run.take hb hs1 hs2).congr e, (hr.gau.take hr.run.rng hb hhalf).congr e e2, fun k hk => ?_, fun k hk => ?_⟩
  · rw [hlen] at hk
    by_cases hkn : k = sz.length
    · obtain ⟨p, hp⟩ : ∃ p, p ∈ memN n inn b := ⟨_, List.getElem_mem hb0⟩
      exact ⟨p, (mem_memN.1 hp).1, by rw [if_pos hp, hkn]⟩
    · by_cases hkh : k = h
      · have hpos : 0 < (memN n (fun p => if inn p = b then sz.length else hp p) h).length := by omega
        obtain ⟨p, hp⟩ : ∃ p, p ∈ memN n (fun p => if inn p = b then sz.length else hp p) h := ⟨_, List.getElem_mem hpos⟩
        obtain ⟨hp1, hp2⟩ := mem_memN.1 hp
        exact ⟨p, hp1, by rw [← e p hp1, hkh]; exact hp2⟩
      · obtain ⟨p, hp1, hp2⟩ := hr.onto k (by omega)
        refine ⟨p, hp1, ?_⟩
        rw [← e p hp1, if_neg (fun hi => hkh (by rw [← hp2]; exact hb p hp1 hi)), hp2]
  · rw [hlen] at hk
    rw [← memN_congr e]
    rw [List.getElem?_set]
    by_cases hkh : h = k
    · subst hkh
      rw [if_pos rfl, if_pos (by simp; omega)]
      have hsz := hr.szs h hh
      rw [hsh] at hsz
      simp only [Option.some.injEq] at hsz ⊢
      omega
    · rw [if_neg hkh]
      by_cases hkn : k = sz.length
      · subst hkn
        rw [List.getElem?_append_right (Nat.le_refl _), memN_new hr.run.rng]
        simp
      · rw [List.getElem?_append_left (by omega), hr.szs k (by omega), memN_else hkn (fun e => hkh e.symm) hb]
theorem RunS.take {inn hp ga inn1 inn2 : Nat → Nat} {sz : List Int} {b c h : Nat} (hr : RunS s n inn hp ga sz) (hb : ∀ p, p < n → inn p = b → hp p = h) (hc : ∀ p, p < n → inn p = c → hp p = h) (hbc : b ≠ c)
    (hl : (memN n inn b).length ≤ (memN n inn c).length) (hb0 : 0 < (memN n inn b).length) (h1 : SplitBy s n (· ∈ memN n inn b) inn inn1) (h2 : SplitBy s n (· ∈ memN n (fun p => if p ∈ memN n inn b then sz.length else hp p) h) inn1 inn2) {sh : Int} (hsh : sz[h]? = some sh) :
    RunS s n inn2 (fun p => if p ∈ memN n inn b then sz.length else hp p) (fun p => if p ∈ memN n inn b then ga p + 1 else ga p) ((sz ++ [((memN n inn b).length : Int)]).set h (sh - (memN n inn b).length)) :=
  hr.takeH hb (half hb hc hbc hl) hb0 h1 h2 hsh
theorem RunS.done {inn hp ga : Nat → Nat} {sz : List Int} (hr : RunS s n inn hp ga sz) (h : ∀ p q, p < n → q < n → hp p = hp q → inn p = inn q) : Big s n (fun p => (inn p : Int)) := hr.run.done h
theorem RunS.few {inn hp ga : Nat → Nat} {sz : List Int} (hr : RunS s n inn hp ga sz) : sz.length ≤ n := heaps_le hr.onto
end
end Pl
end Go.Proofs.YtdhloijdefnkpaaGreatDoor
namespace Go.Proofs.YtdhloijdefnkpaaGreatDoor
namespace Pl
abbrev B3 := Nat × Nat × Nat
structure PI (n : Nat) (el pl inn : Nat → Nat) (bl : List B3) : Prop where
  hel : ∀ i, i < n → el i < n ∧ pl (el i) = i
  hpl : ∀ e, e < n → pl e < n ∧ el (pl e) = e
  blk : ∀ (b : Nat) (x : B3), bl[b]? = some x → x.1 < x.2.1 ∧ x.2.1 ≤ n ∧ x.1 + x.2.2 ≤ x.2.1
  hin : ∀ e, e < n → ∃ x : B3, bl[inn e]? = some x ∧ x.1 ≤ pl e ∧ pl e < x.2.1
  cov : ∀ (b : Nat) (x : B3) (i : Nat), bl[b]? = some x → x.1 ≤ i → i < x.2.1 → inn (el i) = b
def Mkd (pl inn : Nat → Nat) (bl : List B3) (e : Nat) : Prop := ∃ x : B3, bl[inn e]? = some x ∧ pl e < x.1 + x.2.2
section
variable {n : Nat} {el pl inn : Nat → Nat} {bl : List B3}
theorem PI.lt (h : PI n el pl inn bl) {e : Nat} (he : e < n) : inn e < bl.length := by
  obtain ⟨x, hx, _⟩ := h.hin e he
  exact (List.getElem?_eq_some_iff.1 hx).1
theorem PI.few (h : PI n el pl inn bl) : bl.length ≤ n := heaps_le (f := inn) (fun k hk => by
  obtain ⟨x, hx⟩ : ∃ x, bl[k]? = some x := ⟨_, List.getElem?_eq_getElem hk⟩
  obtain ⟨h1, h2, _⟩ := h.blk k x hx
  exact ⟨el x.1, (h.hel x.1 (by omega)).1, h.cov k x x.1 hx (Nat.le_refl _) h1⟩)
def swE (el : Nat → Nat) (i k : Nat) : Nat → Nat := upd (upd el i (el k)) k (el i)
def swP (el pl : Nat → Nat) (i k : Nat) : Nat → Nat := upd (upd pl (el k) i) (el i) k
theorem PI.mark (h : PI n el pl inn bl) {e : Nat} (he : e < n) {x : B3} (hx : bl[inn e]? = some x) (hm : x.1 + x.2.2 ≤ pl e) :
    PI n (swE el (pl e) (x.1 + x.2.2)) (swP el pl (pl e) (x.1 + x.2.2)) inn (bl.set (inn e) (x.1, x.2.1, x.2.2 + 1)) ∧
    (∀ z, z < n → (Mkd (swP el pl (pl e) (x.1 + x.2.2)) inn (bl.set (inn e) (x.1, x.2.1, x.2.2 + 1)) z ↔ Mkd pl inn bl z ∨ z = e)) := by
  obtain ⟨x', hx', hp1, hp2⟩ := h.hin e he
  rw [hx] at hx'
  obtain rfl := Option.some.inj hx'
  obtain ⟨hb1, hb2, hb3⟩ := h.blk _ _ hx
  obtain ⟨f, fr, hf⟩ : ∃ f fr, f = el fr ∧ fr = x.1 + x.2.2 := ⟨_, _, rfl, rfl⟩
  obtain ⟨i, hi⟩ : ∃ i, i = pl e := ⟨_, rfl⟩
  rw [← hi] at hm hp1 hp2 ⊢
  rw [← hf.2] at hm ⊢
  have hfrn : fr < n := by omega
  have hin : i < n := by omega
  have hei : el i = e := by rw [hi]; exact (h.hpl e he).2
  have hef : el fr = f := hf.1.symm
  have hpf : pl f = fr := by rw [← hef]; exact (h.hel fr hfrn).2
  have hfn : f < n := by rw [← hef]; exact (h.hel fr hfrn).1
  have hinf : inn f = inn e := by rw [← hef]; exact h.cov _ x fr hx (by omega) (by omega)
  have hfe : f = e ↔ fr = i := ⟨fun e1 => by rw [← hpf, e1, hi], fun e1 => by rw [← hef, e1, hei]⟩
  have hbl : inn e < bl.length := h.lt he
  have E : ∀ z, swE el i fr z = if z = fr then e else if z = i then f else el z := fun z => by
    unfold swE upd; rw [hei, hef]
  have Pz : ∀ z, swP el pl i fr z = if z = e then fr else if z = f then i else pl z := fun z => by
    unfold swP upd; rw [hei, hef]
  have hset : ∀ b, (bl.set (inn e) (x.1, x.2.1, x.2.2 + 1))[b]? = if b = inn e then some (x.1, x.2.1, x.2.2 + 1) else bl[b]? := fun b => by
    rw [List.getElem?_set]
    by_cases e1 : inn e = b
    · subst e1; simp [hbl]
    · rw [if_neg e1, if_neg (fun e2 => e1 e2.symm)]
  -- where an element lies: in its block as before
  have hpl : ∀ z, z < n → ∀ y : B3, bl[inn z]? = some y → y.1 ≤ swP el pl i fr z ∧ swP el pl i fr z < y.2.1 ∧ swP el pl i fr z < n := fun z hz y hy => by
    obtain ⟨y', hy', h1, h2⟩ := h.hin z hz
    rw [hy] at hy'
    obtain rfl := Option.some.inj hy'
    obtain ⟨_, h3, _⟩ := h.blk _ _ hy
    rw [Pz]
    by_cases e1 : z = e
    · rw [if_pos e1]
      subst e1
      rw [hx] at hy; obtain rfl := Option.some.inj hy
      exact ⟨by omega, by omega, hfrn⟩
    · rw [if_neg e1]
      by_cases e2 : z = f
      · rw [if_pos e2]
        subst e2
        rw [hinf, hx] at hy; obtain rfl := Option.some.inj hy
        exact ⟨by omega, by omega, hin⟩
      · rw [if_neg e2]; exact ⟨h1, h2, by omega⟩
  refine ⟨⟨fun z hz => ?_, fun z hz => ?_, fun b y hy => ?_, fun z hz => ?_, fun b y z hy h1 h2 => ?_⟩, fun z hz => ?_⟩
  · rw [E]
    by_cases e1 : z = fr
    · rw [if_pos e1, Pz, if_pos rfl]; exact ⟨he, e1.symm⟩
    · rw [if_neg e1]
      by_cases e2 : z = i
      · rw [if_pos e2, Pz]
        have : ¬ f = e := fun e3 => e1 (by rw [e2]; exact (hfe.1 e3).symm)
        rw [if_neg this, if_pos rfl]; exact ⟨hfn, e2.symm⟩
      · rw [if_neg e2, Pz]
        obtain ⟨a1, a2⟩ := h.hel z hz
        have n1 : ¬ el z = e := fun e3 => e2 (by rw [← a2, e3, hi])
        have n2 : ¬ el z = f := fun e3 => e1 (by rw [← a2, e3, hpf])
        rw [if_neg n1, if_neg n2]; exact ⟨a1, a2⟩
  · obtain ⟨y, hy, _⟩ := h.hin z hz
    refine ⟨(hpl z hz y hy).2.2, ?_⟩
    rw [E, Pz]
    by_cases e1 : z = e
    · rw [if_pos e1, if_pos rfl, e1]
    · rw [if_neg e1]
      by_cases e2 : z = f
      · rw [if_pos e2]
        have : ¬ i = fr := fun e3 => e1 (by rw [e2]; exact hfe.2 e3.symm)
        rw [if_neg this, if_pos rfl, e2]
      · rw [if_neg e2]
        obtain ⟨a1, a2⟩ := h.hpl z hz
        have n1 : ¬ pl z = fr := fun e3 => e2 (by rw [← a2, e3, hef])
        have n2 : ¬ pl z = i := fun e3 => e1 (by rw [← a2, e3, hei])
        rw [if_neg n1, if_neg n2]; exact a2
  · rw [hset] at hy
    split at hy
    · obtain rfl := Option.some.inj hy
      exact ⟨hb1, hb2, by show x.1 + (x.2.2 + 1) ≤ x.2.1; omega⟩
    · exact h.blk b y hy
  · obtain ⟨y, hy, h1, h2⟩ := h.hin z hz
    obtain ⟨a1, a2, _⟩ := hpl z hz y hy
    rw [hset]
    by_cases e1 : inn z = inn e
    · rw [if_pos e1]
      rw [e1, hx] at hy; obtain rfl := Option.some.inj hy
      exact ⟨_, rfl, a1, a2⟩
    · rw [if_neg e1]; exact ⟨y, hy, a1, a2⟩
  · rw [hset] at hy
    have key : ∀ y : B3, bl[b]? = some y → y.1 ≤ z → z < y.2.1 → inn (swE el i fr z) = b := fun y hy h1 h2 => by
      have h0 := h.cov b y z hy h1 h2
      rw [E]
      by_cases e1 : z = fr
      · rw [if_pos e1]; rw [e1, hef, hinf] at h0; exact h0
      · rw [if_neg e1]
        by_cases e2 : z = i
        · rw [if_pos e2, hinf]; rw [e2, hei] at h0; exact h0
        · rw [if_neg e2]; exact h0
    by_cases e1 : b = inn e
    · rw [if_pos e1] at hy
      obtain rfl := Option.some.inj hy
      exact key x (by rw [e1]; exact hx) h1 h2
    · rw [if_neg e1] at hy; exact key y hy h1 h2
  · unfold Mkd
    rw [hset, Pz]
    obtain ⟨y, hy, h1, h2⟩ := h.hin z hz
    by_cases e0 : inn z = inn e
    · rw [if_pos e0]
      rw [e0, hx] at hy; obtain rfl := Option.some.inj hy
      rw [e0, hx]
      simp only [Option.some.injEq, exists_eq_left']
      by_cases e1 : z = e
      · simp only [if_pos e1]
        constructor
        · intro _; exact .inr e1
        · intro _; omega
      · rw [if_neg e1]
        by_cases e2 : z = f
        · rw [if_pos e2]
          have n1 : i ≠ fr := fun e3 => e1 (by rw [e2]; exact hfe.2 e3.symm)
          rw [e2, hpf]
          constructor
          · intro h3; omega
          · rintro (h3 | h3)
            · omega
            · exact absurd h3 (fun e3 => e1 (by rw [e2]; exact e3))
        · rw [if_neg e2]
          have n1 : pl z ≠ fr := fun e3 => e2 (by rw [← (h.hpl z hz).2, e3, hef])
          constructor
          · intro h3; exact .inl (by omega)
          · rintro (h3 | h3)
            · omega
            · exact absurd h3 e1
    · rw [if_neg e0]
      have n1 : z ≠ e := fun e3 => e0 (by rw [e3])
      have n2 : z ≠ f := fun e3 => e0 (by rw [e3, hinf])
      rw [if_neg n1, if_neg n2]
      constructor
      · intro h3; exact .inl h3
      · rintro (h3 | h3)
        · exact h3
        · exact absurd h3 n1
theorem mkd_iff {e : Nat} {x : B3} (hx : bl[inn e]? = some x) : (Mkd pl inn bl e ↔ pl e < x.1 + x.2.2) := by
  unfold Mkd
  rw [hx]; simp
structure Spl (n : Nat) (pl inn inn' : Nat → Nat) (bl bl' : List B3) (b : Nat) : Prop where
  far : ∀ e, e < n → inn e ≠ b → inn' e = inn e
  near : ∀ e, e < n → inn e = b → inn' e = b ∨ inn' e = bl.length
  same : ∀ e f, e < n → f < n → inn e = b → inn f = b → (inn' e = inn' f ↔ (Mkd pl inn bl e ↔ Mkd pl inn bl f))
  mks : ∀ e, e < n → (Mkd pl inn' bl' e ↔ Mkd pl inn bl e ∧ inn e ≠ b)
  more : bl.length ≤ bl'.length
  else_ : ∀ c, c ≠ b → c < bl.length → bl'[c]? = bl[c]?
theorem PI.split0 (h : PI n el pl inn bl) {b : Nat} {x : B3} (hx : bl[b]? = some x) (h0 : x.2.2 = 0 ∨ x.2.1 = x.1 + x.2.2) :
    PI n el pl inn (bl.set b (x.1, x.2.1, 0)) ∧ Spl n pl inn inn bl (bl.set b (x.1, x.2.1, 0)) b := by
  have hbl := (List.getElem?_eq_some_iff.1 hx).1
  have hset : ∀ c, (bl.set b (x.1, x.2.1, 0))[c]? = if c = b then some (x.1, x.2.1, 0) else bl[c]? := fun c => by
    rw [List.getElem?_set]
    by_cases e1 : b = c
    · subst e1; simp [hbl]
    · rw [if_neg e1, if_neg (fun e2 => e1 e2.symm)]
  obtain ⟨b1, b2, b3⟩ := h.blk b x hx
  have hmk : ∀ e, e < n → inn e = b → (Mkd pl inn bl e ↔ x.2.2 ≠ 0) := fun e he hb => by
    rw [mkd_iff (x := x) (by rw [hb]; exact hx)]
    obtain ⟨y, hy, h1, h2⟩ := h.hin e he
    rw [hb, hx] at hy; obtain rfl := Option.some.inj hy
    omega
  refine ⟨⟨h.hel, h.hpl, fun c y hy => ?_, fun e he => ?_, fun c y i hy h1 h2 => ?_⟩, ⟨fun _ _ _ => rfl, fun e _ he => .inl he, fun e f he hf h1 h2 => ?_, fun e he => ?_, by simp, fun c hc hl => by rw [hset, if_neg hc]⟩⟩
  · rw [hset] at hy
    split at hy
    · obtain rfl := Option.some.inj hy; exact ⟨b1, b2, by show x.1 + 0 ≤ x.2.1; omega⟩
    · exact h.blk c y hy
  · obtain ⟨y, hy, h1, h2⟩ := h.hin e he
    rw [hset]
    by_cases e1 : inn e = b
    · rw [if_pos e1]
      rw [e1, hx] at hy; obtain rfl := Option.some.inj hy
      exact ⟨_, rfl, h1, h2⟩
    · rw [if_neg e1]; exact ⟨y, hy, h1, h2⟩
  · rw [hset] at hy
    by_cases e1 : c = b
    · rw [if_pos e1] at hy
      obtain rfl := Option.some.inj hy
      exact h.cov c x i (by rw [e1]; exact hx) h1 h2
    · rw [if_neg e1] at hy; exact h.cov c y i hy h1 h2
  · rw [h1, h2, hmk e he h1, hmk f hf h2]
    simp
  · unfold Mkd
    rw [hset]
    obtain ⟨y, hy, h1, h2⟩ := h.hin e he
    by_cases e1 : inn e = b
    · rw [if_pos e1]
      rw [e1, hx] at hy; obtain rfl := Option.some.inj hy
      simp only [Option.some.injEq, exists_eq_left']
      constructor
      · intro h3; omega
      · rintro ⟨_, h3⟩; exact absurd e1 h3
    · rw [if_neg e1]
      simp [e1]
def newB (x : B3) : B3 := if x.2.2 ≤ x.2.1 - x.1 - x.2.2 then (x.1, x.1 + x.2.2, 0) else (x.1 + x.2.2, x.2.1, 0)
def oldB (x : B3) : B3 := if x.2.2 ≤ x.2.1 - x.1 - x.2.2 then (x.1 + x.2.2, x.2.1, 0) else (x.1, x.1 + x.2.2, 0)
theorem PI.split1 (h : PI n el pl inn bl) {b : Nat} {x : B3} (hx : bl[b]? = some x) (h0 : x.2.2 ≠ 0) (h1 : x.1 + x.2.2 < x.2.1) {inn' : Nat → Nat}
    (hi : ∀ e, e < n → inn' e = if inn e = b ∧ (newB x).1 ≤ pl e ∧ pl e < (newB x).2.1 then bl.length else inn e) :
    PI n el pl inn' (bl.set b (oldB x) ++ [newB x]) ∧ Spl n pl inn inn' bl (bl.set b (oldB x) ++ [newB x]) b := by
  have hbl := (List.getElem?_eq_some_iff.1 hx).1
  obtain ⟨b1, b2, b3⟩ := h.blk b x hx
  obtain ⟨O, hO⟩ : ∃ O, O = oldB x := ⟨_, rfl⟩
  obtain ⟨W, hW⟩ : ∃ W, W = newB x := ⟨_, rfl⟩
  rw [← hW] at hi
  rw [← hO, ← hW]
  have hset : ∀ c, (bl.set b O ++ [W])[c]? = if c = b then some O else if c = bl.length then some W else bl[c]? := fun c => by
    by_cases e1 : c = b
    · rw [if_pos e1, List.getElem?_append_left (by simp; omega), e1]; simp [hbl]
    · rw [if_neg e1]
      by_cases e2 : c = bl.length
      · rw [if_pos e2, e2, List.getElem?_append_right (by simp)]; simp
      · rw [if_neg e2]
        by_cases e3 : c < bl.length
        · rw [List.getElem?_append_left (by simpa using e3), List.getElem?_set, if_neg (fun e => e1 e.symm)]
        · rw [List.getElem?_eq_none (by simp; omega), List.getElem?_eq_none (by omega)]
  have hcase : (O = (x.1 + x.2.2, x.2.1, 0) ∧ W = (x.1, x.1 + x.2.2, 0)) ∨ (O = (x.1, x.1 + x.2.2, 0) ∧ W = (x.1 + x.2.2, x.2.1, 0)) := by
    rw [hO, hW]; unfold oldB newB
    split
    · exact .inl ⟨rfl, rfl⟩
    · exact .inr ⟨rfl, rfl⟩
  have hOW : O.1 < O.2.1 ∧ O.2.1 ≤ n ∧ O.2.2 = 0 ∧ W.1 < W.2.1 ∧ W.2.1 ≤ n ∧ W.2.2 = 0 ∧ x.1 ≤ O.1 ∧ x.1 ≤ W.1 ∧ O.2.1 ≤ x.2.1 ∧ W.2.1 ≤ x.2.1 := by
    rcases hcase with ⟨e1, e2⟩ | ⟨e1, e2⟩ <;> rw [e1, e2] <;> refine ⟨?_, ?_, ?_, ?_, ?_, ?_, ?_, ?_, ?_, ?_⟩ <;> dsimp only <;> omega
  have hpart : ∀ i, x.1 ≤ i → i < x.2.1 → ((W.1 ≤ i ∧ i < W.2.1) ↔ ¬ (O.1 ≤ i ∧ i < O.2.1)) := fun i h2 h3 => by
    rcases hcase with ⟨e1, e2⟩ | ⟨e1, e2⟩ <;> rw [e1, e2] <;> simp only <;> omega
  have hmark : ∀ i j, x.1 ≤ i → i < x.2.1 → x.1 ≤ j → j < x.2.1 → (((W.1 ≤ i ∧ i < W.2.1) ↔ (W.1 ≤ j ∧ j < W.2.1)) ↔ (i < x.1 + x.2.2 ↔ j < x.1 + x.2.2)) := fun i j h2 h3 h4 h5 => by
    rcases hcase with ⟨e1, e2⟩ | ⟨e1, e2⟩ <;> rw [e2] <;> simp only <;> omega
  have hat : ∀ e, e < n → inn e = b → x.1 ≤ pl e ∧ pl e < x.2.1 := fun e he hb => by
    obtain ⟨y, hy, h1, h2⟩ := h.hin e he
    rw [hb, hx] at hy; obtain rfl := Option.some.inj hy
    exact ⟨h1, h2⟩
  have hcl : ∀ e, e < n → inn e = b → (Mkd pl inn bl e ↔ pl e < x.1 + x.2.2) := fun e he hb => mkd_iff (by rw [hb]; exact hx)
  obtain ⟨o1, o2, o3, w1, w2, w3, q1, q2, q3, q4⟩ := hOW
  refine ⟨⟨h.hel, h.hpl, fun c y hy => ?_, fun e he => ?_, fun c y i hy h2 h3 => ?_⟩, ⟨fun e he hne => ?_, fun e he hb => ?_, fun e f he hf h2 h3 => ?_, fun e he => ?_, by simp, fun c hc hl => ?_⟩⟩
  · rw [hset] at hy
    split at hy
    · obtain rfl := Option.some.inj hy; exact ⟨o1, o2, by omega⟩
    · split at hy
      · obtain rfl := Option.some.inj hy; exact ⟨w1, w2, by omega⟩
      · exact h.blk c y hy
  · rw [hi e he]
    obtain ⟨y, hy, h2, h3⟩ := h.hin e he
    by_cases e1 : inn e = b
    · have ha := hat e he e1
      by_cases e2 : W.1 ≤ pl e ∧ pl e < W.2.1
      · rw [if_pos ⟨e1, e2⟩, hset, if_neg (by omega), if_pos rfl]
        exact ⟨W, rfl, e2.1, e2.2⟩
      · rw [if_neg (fun h4 => e2 h4.2), hset, if_pos e1]
        have : O.1 ≤ pl e ∧ pl e < O.2.1 := by
          rcases Classical.em (O.1 ≤ pl e ∧ pl e < O.2.1) with h4 | h4
          · exact h4
          · exact absurd ((hpart _ ha.1 ha.2).2 h4) e2
        exact ⟨O, rfl, this.1, this.2⟩
    · rw [if_neg (fun h4 => e1 h4.1), hset, if_neg e1]
      have hl := (List.getElem?_eq_some_iff.1 hy).1
      rw [if_neg (by omega)]
      exact ⟨y, hy, h2, h3⟩
  · rw [hset] at hy
    have hin : i < n := by
      split at hy
      · obtain rfl := Option.some.inj hy; omega
      · split at hy
        · obtain rfl := Option.some.inj hy; omega
        · obtain ⟨_, h4, _⟩ := h.blk c y hy; omega
    obtain ⟨hen, hpe⟩ := h.hel i hin
    rw [hi _ hen, hpe]
    by_cases e1 : c = b
    · rw [if_pos e1] at hy
      obtain rfl := Option.some.inj hy
      have hib := h.cov b x i hx (by omega) (by omega)
      rw [if_neg (fun h4 => (hpart i (by omega) (by omega)).1 h4.2 ⟨h2, h3⟩), hib, e1]
    · rw [if_neg e1] at hy
      by_cases e2 : c = bl.length
      · rw [if_pos e2] at hy
        obtain rfl := Option.some.inj hy
        have hib := h.cov b x i hx (by omega) (by omega)
        rw [if_pos ⟨hib, h2, h3⟩, e2]
      · rw [if_neg e2] at hy
        have hib := h.cov c y i hy h2 h3
        rw [if_neg (fun h4 => e1 (by rw [← hib]; exact h4.1)), hib]
  · rw [hi e he, if_neg (fun h4 => hne h4.1)]
  · rw [hi e he]
    split
    · exact .inr rfl
    · exact .inl hb
  · rw [hi e he, hi f hf, hcl e he h2, hcl f hf h3]
    have a1 := hat e he h2
    have a2 := hat f hf h3
    rw [← hmark (pl e) (pl f) a1.1 a1.2 a2.1 a2.2]
    simp only [h2, h3, true_and]
    by_cases c1 : W.1 ≤ pl e ∧ pl e < W.2.1 <;> by_cases c2 : W.1 ≤ pl f ∧ pl f < W.2.1
    · rw [if_pos c1, if_pos c2]; simp [c1, c2]
    · rw [if_pos c1, if_neg c2]
      constructor
      · intro h4; omega
      · intro h4; exact absurd (h4.1 c1) c2
    · rw [if_neg c1, if_pos c2]
      constructor
      · intro h4; omega
      · intro h4; exact absurd (h4.2 c2) c1
    · rw [if_neg c1, if_neg c2]; simp [c1, c2]
  · unfold Mkd
    rw [hset, hi e he]
    obtain ⟨y, hy, h2, h3⟩ := h.hin e he
    by_cases e1 : inn e = b
    · have ha := hat e he e1
      simp only [e1, true_and, ne_eq, not_true, and_false, iff_false]
      by_cases e2 : W.1 ≤ pl e ∧ pl e < W.2.1
      · rw [if_pos e2, if_neg (by omega), if_pos rfl]
        rintro ⟨z, hz, hlt⟩
        obtain rfl := Option.some.inj hz
        omega
      · rw [if_neg e2, if_pos rfl]
        rintro ⟨z, hz, hlt⟩
        obtain rfl := Option.some.inj hz
        have := (hpart (pl e) ha.1 ha.2)
        have h5 : O.1 ≤ pl e ∧ pl e < O.2.1 := by
          rcases Classical.em (O.1 ≤ pl e ∧ pl e < O.2.1) with h4 | h4
          · exact h4
          · exact absurd (this.2 h4) e2
        omega
    · have hl := (List.getElem?_eq_some_iff.1 hy).1
      have hnn : (if inn e = b ∧ W.1 ≤ pl e ∧ pl e < W.2.1 then bl.length else inn e) = inn e := if_neg (fun h4 => e1 h4.1)
      rw [hnn, if_neg e1, if_neg (by omega)]
      simp [e1]
  · rw [hset, if_neg hc, if_neg (by omega)]
theorem nodup_at {l : List Nat} (h : l.Nodup) {i j : Nat} {x : Nat} (hi : l[i]? = some x) (hj : l[j]? = some x) : i = j := by
  obtain ⟨hil, hi⟩ := List.getElem?_eq_some_iff.1 hi
  obtain ⟨hjl, hj⟩ := List.getElem?_eq_some_iff.1 hj
  have hp := List.pairwise_iff_getElem.1 h
  rcases Nat.lt_trichotomy i j with h1 | h1 | h1
  · exact absurd (hi.trans hj.symm) (hp i j hil hjl h1)
  · exact h1
  · exact absurd (hj.trans hi.symm) (hp j i hjl hil h1)
structure SI (n : Nat) (X : Nat → Prop) (inn0 pl inn : Nat → Nat) (bl : List B3) (ms : List Nat) (k : Nat) : Prop where
  same : ∀ p q, p < n → q < n → (inn p = inn q ↔ inn0 p = inn0 q ∧ (inn0 p ∈ ms.take k → (X p ↔ X q)))
  mks : ∀ p, p < n → (Mkd pl inn bl p ↔ X p ∧ inn0 p ∉ ms.take k)
  rest : ∀ j b, k ≤ j → ms[j]? = some b → b < bl.length ∧ ∀ p, p < n → (inn p = b ↔ inn0 p = b)
theorem SI.start {X : Nat → Prop} {ms : List Nat} (hX : ∀ p, p < n → (Mkd pl inn bl p ↔ X p)) (hms : ∀ b ∈ ms, b < bl.length) : SI n X inn pl inn bl ms 0 where
  same p q _ _ := by simp
  mks p hp := by simp [hX p hp]
  rest j b _ hb := ⟨hms b (List.mem_of_getElem? hb), fun _ _ => Iff.rfl⟩
theorem SI.step {X : Nat → Prop} {inn0 inn' : Nat → Nat} {bl' : List B3} {ms : List Nat} {k b : Nat} (h : SI n X inn0 pl inn bl ms k) (hP : PI n el pl inn bl) (hnd : ms.Nodup) (hb : ms[k]? = some b) (hs : Spl n pl inn inn' bl bl' b) : SI n X inn0 pl inn' bl' ms (k + 1) := by
  obtain ⟨hkl, hkb⟩ := List.getElem?_eq_some_iff.1 hb
  have htk : ∀ z, z ∈ ms.take (k + 1) ↔ z ∈ ms.take k ∨ z = b := fun z => by
    rw [List.take_succ_eq_append_getElem hkl, hkb]; simp
  have hnb : b ∉ ms.take k := fun hm => by
    obtain ⟨j, hj, e⟩ := List.getElem_of_mem hm
    rw [List.getElem_take] at e
    rw [List.length_take] at hj
    have := nodup_at hnd (i := j) (j := k) (x := b) (by rw [List.getElem?_eq_getElem (by omega), e]) hb
    omega
  have hrb := (h.rest k b (Nat.le_refl _) hb)
  have mk : ∀ p, p < n → inn0 p = b → (Mkd pl inn bl p ↔ X p) := fun p hp e => by
    rw [h.mks p hp, e]; simp [hnb]
  refine ⟨fun p q hp hq => ?_, fun p hp => ?_, fun j c hj hc => ?_⟩
  · rw [htk]
    by_cases e1 : inn0 p = b
    · have i1 := (hrb.2 p hp).2 e1
      by_cases e2 : inn0 q = b
      · have i2 := (hrb.2 q hq).2 e2
        rw [hs.same p q hp hq i1 i2, mk p hp e1, mk q hq e2]
        simp [e1, e2]
      · have i2 : inn q ≠ b := fun e => e2 ((hrb.2 q hq).1 e)
        rw [hs.far q hq i2]
        constructor
        · intro e
          rcases hs.near p hp i1 with e3 | e3
          · exact absurd (e.symm.trans e3) i2
          · have := hP.lt hq; omega
        · rintro ⟨e, _⟩; exact absurd (e.symm.trans e1) e2
    · have i1 : inn p ≠ b := fun e => e1 ((hrb.2 p hp).1 e)
      rw [hs.far p hp i1]
      by_cases e2 : inn0 q = b
      · have i2 := (hrb.2 q hq).2 e2
        constructor
        · intro e
          rcases hs.near q hq i2 with e3 | e3
          · exact absurd (e.trans e3) i1
          · have := hP.lt hp; omega
        · rintro ⟨e, _⟩; exact absurd (e.trans e2) e1
      · have i2 : inn q ≠ b := fun e => e2 ((hrb.2 q hq).1 e)
        rw [hs.far q hq i2, h.same p q hp hq]
        simp [e1]
  · rw [hs.mks p hp, h.mks p hp, htk, not_or]
    rw [show (inn p ≠ b) ↔ (inn0 p ≠ b) from not_congr (hrb.2 p hp)]
    exact and_assoc
  · obtain ⟨h1, h2⟩ := h.rest j c (by omega) hc
    have hcb : c ≠ b := fun e => by
      have := nodup_at hnd (i := j) (j := k) (x := b) (by rw [hc, e]) hb
      omega
    refine ⟨Nat.lt_of_lt_of_le h1 hs.more, fun p hp => ?_⟩
    rw [← h2 p hp]
    by_cases e1 : inn p = b
    · rcases hs.near p hp e1 with e2 | e2
      · rw [e1, e2]
      · constructor
        · intro e; omega
        · intro e; exact absurd (e.symm.trans e1) hcb
    · rw [hs.far p hp e1]
theorem SI.done {X : Nat → Prop} {inn0 : Nat → Nat} {ms : List Nat} (h : SI n X inn0 pl inn bl ms ms.length) (hX : ∀ p, p < n → X p → inn0 p ∈ ms) :
    (∀ p q, p < n → q < n → (inn p = inn q ↔ inn0 p = inn0 q ∧ (X p ↔ X q))) ∧ ∀ p, p < n → ¬ Mkd pl inn bl p := by
  have h1 := h.same; have h2 := h.mks
  rw [List.take_length] at h1 h2
  refine ⟨fun p q hp hq => ?_, fun p hp hm => ?_⟩
  · rw [h1 p q hp hq]
    constructor
    · rintro ⟨e, h3⟩
      refine ⟨e, ?_⟩
      by_cases hm : inn0 p ∈ ms
      · exact h3 hm
      · exact ⟨fun hx => absurd (hX p hp hx) hm, fun hx => absurd (by rw [e]; exact hX q hq hx) hm⟩
    · rintro ⟨e, h3⟩; exact ⟨e, fun _ => h3⟩
  · obtain ⟨a1, a2⟩ := (h2 p hp).1 hm
    exact a2 (hX p hp a1)
def mkB (bl : List B3) (k : Nat) : List Nat := (List.range k).filter (fun b => decide (∃ x, bl[b]? = some x ∧ 0 < x.2.2))
theorem mkB_nodup (bl : List B3) (k : Nat) : (mkB bl k).Nodup := List.Pairwise.filter _ List.nodup_range
theorem mkB_lt {k b : Nat} (h : b ∈ mkB bl k) : b < k := by unfold mkB at h; simp at h; exact h.1
theorem PI.mkB (h : PI n el pl inn bl) {p : Nat} (hp : p < n) (hm : Mkd pl inn bl p) : inn p ∈ mkB bl bl.length := by
  obtain ⟨x, hx, hlt⟩ := hm
  obtain ⟨y, hy, h1, h2⟩ := h.hin p hp
  rw [hx] at hy; obtain rfl := Option.some.inj hy
  unfold Pl.mkB
  simp only [List.mem_filter, List.mem_range, decide_eq_true_eq]
  exact ⟨h.lt hp, x, hx, by omega⟩
theorem PI.none (h : PI n el pl inn bl) (hm : ∀ p, p < n → ¬ Mkd pl inn bl p) {b : Nat} {x : B3} (hx : bl[b]? = some x) : x.2.2 = 0 := by
  obtain ⟨h1, h2, h3⟩ := h.blk b x hx
  rcases Nat.eq_zero_or_pos x.2.2 with h4 | h4
  · exact h4
  · have hi := h.cov b x x.1 hx (Nat.le_refl _) h1
    obtain ⟨he, hp⟩ := h.hel x.1 (by omega)
    exact absurd ⟨x, by rw [hi]; exact hx, by rw [hp]; omega⟩ (hm _ he)
def elRow (el : Nat → Nat) (x : B3) : List Nat := (List.range' x.1 (x.2.1 - x.1)).map el
theorem PI.rowE_mem (h : PI n el pl inn bl) {b : Nat} {x : B3} (hx : bl[b]? = some x) (e : Nat) : e ∈ elRow el x ↔ e ∈ memN n inn b := by
  obtain ⟨h1, h2, h3⟩ := h.blk b x hx
  rw [mem_memN]
  unfold elRow
  simp only [List.mem_map, List.mem_range'_1]
  constructor
  · rintro ⟨i, hi, rfl⟩
    exact ⟨(h.hel i (by omega)).1, h.cov b x i hx hi.1 (by omega)⟩
  · rintro ⟨he, hb⟩
    obtain ⟨y, hy, a1, a2⟩ := h.hin e he
    rw [hb, hx] at hy; obtain rfl := Option.some.inj hy
    exact ⟨pl e, ⟨a1, by omega⟩, (h.hpl e he).2⟩
theorem PI.rowE_nodup (h : PI n el pl inn bl) {b : Nat} {x : B3} (hx : bl[b]? = some x) : (elRow el x).Nodup := by
  obtain ⟨h1, h2, h3⟩ := h.blk b x hx
  unfold elRow
  unfold List.Nodup
  rw [List.pairwise_map]
  refine List.Pairwise.imp_of_mem (R := fun a b => a ≠ b) ?_ (List.nodup_range' (s := x.1) (n := x.2.1 - x.1))
  intro i j hi hj hne e
  rw [List.mem_range'_1] at hi hj
  exact hne (by rw [← (h.hel i (by omega)).2, ← (h.hel j (by omega)).2, e])
theorem PI.rowE_len (h : PI n el pl inn bl) {b : Nat} {x : B3} (hx : bl[b]? = some x) : (memN n inn b).length = x.2.1 - x.1 := by
  have h1 := nodup_le (h.rowE_nodup hx) (fun e he => (h.rowE_mem hx e).1 he)
  have h2 := nodup_le (memN_nodup inn b) (fun e he => (h.rowE_mem hx e).2 he)
  have h3 : (elRow el x).length = x.2.1 - x.1 := by simp [elRow]
  omega
theorem sort_memN {L : List Int} {f : Nat → Nat} {b : Nat} (hn : L.Nodup) (hm : ∀ x, x ∈ L ↔ ∃ e ∈ memN n f b, x = (e : Int)) : L.mergeSort (fun x y => decide (x ≤ y)) = (memN n f b).map Int.ofNat := by
  have hp := List.mergeSort_perm L (fun x y => decide (x ≤ y))
  have hs := List.pairwise_mergeSort (le := fun (x y : Int) => decide (x ≤ y)) (fun a b c h1 h2 => by simp at *; omega) (fun a b => by simp; omega) L
  have hnd := hp.nodup_iff.2 hn
  have h1 : (L.mergeSort (fun x y => decide (x ≤ y))).Pairwise (· < ·) := by
    refine (hs.and hnd).imp (fun {a b} h => ?_)
    have := h.1; have := h.2
    simp at *; omega
  have h2 : ((memN n f b).map Int.ofNat).Pairwise (· < ·) := by
    rw [List.pairwise_map]
    exact (memN_srt f b).imp (fun {a b} h => Int.ofNat_lt.2 h)
  refine List.Perm.eq_of_pairwise (le := (· < ·)) (fun a b _ _ h3 h4 => by omega) h1 h2 ?_
  rw [List.perm_ext_iff_of_nodup hnd (h2.imp (fun {a b} h => by omega))]
  intro a
  rw [hp.mem_iff, hm]
  simp only [List.mem_map]
  constructor
  · rintro ⟨e, he, rfl⟩; exact ⟨e, he, rfl⟩
  · rintro ⟨e, he, rfl⟩; exact ⟨e, he, rfl⟩
end
end Pl
end Go.Proofs.YtdhloijdefnkpaaGreatDoor
