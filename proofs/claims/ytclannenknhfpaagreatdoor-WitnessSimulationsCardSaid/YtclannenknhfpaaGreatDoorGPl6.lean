/-
  Plain: the one form, list by list: its beginnings, how it is told from others.
  Plain: the order in which what silent steps lead to stands ahead.
  Plain: sets of numbers below 320 as five words of 64 bits.
-/
import Derived.Test.YtclannenknhfpaaGreatDoorGPl5
import Derived.Test.YtclannenknhfpaaGreatDoorGPl10
import Derived.Lib.TrailingZeros
namespace Go.Proofs.YtclannenknhfpaaGreatDoor
namespace Pl

theorem canon_snoc (l : List Int) (x : Int) : canon (l ++ [x]) = canon l ++ [((dist (l ++ [x])).idxOf x : Int)] := by
  unfold canon
  rw [List.map_append, List.map_cons, List.map_nil]
  congr 1
  apply List.map_congr_left
  intro y hy
  rw [idx_append l [x] hy]

theorem canon_take (xs : List Int) (i : Nat) : (canon xs).take i = canon (xs.take i) := by
  unfold canon
  rw [← List.map_take]
  apply List.map_congr_left
  intro y hy
  conv => lhs; rw [← List.take_append_drop i xs]
  rw [idx_append _ _ hy]

theorem idx_range : ∀ (n a : Nat) (x : Nat), x < n → ((List.range' a n).map Int.ofNat).idxOf ((a + x : Nat) : Int) = x
  | 0, _, _, h => by omega
  | n + 1, a, 0, _ => by simp [List.range'_succ]
  | n + 1, a, x + 1, h => by
    rw [List.range'_succ, List.map_cons, List.idxOf_cons]
    have hb : (Int.ofNat a == ((a + (x + 1) : Nat) : Int)) = false := by simp; omega
    rw [hb]
    have := idx_range n (a + 1) x (by omega)
    rw [show a + (x + 1) = a + 1 + x by omega]
    simp only [cond_false, this]

theorem map_idx : ∀ (l : List Int), l.Nodup → l.map (fun x => (l.idxOf x : Int)) = (List.range l.length).map Int.ofNat := by
  intro l hn
  apply List.ext_getElem?
  intro i
  rw [List.getElem?_map, List.getElem?_map]
  by_cases h : i < l.length
  · rw [List.getElem?_eq_getElem h, List.getElem?_range h]
    simp only [Option.map_some]
    congr 1
    have := List.Nodup.idxOf_getElem hn i h
    rw [this]; rfl
  · rw [List.getElem?_eq_none (by omega), List.getElem?_eq_none (by simp; omega)]; rfl

theorem dist_canon (l : List Int) : dist (canon l) = (List.range (dist l).length).map Int.ofNat := by
  have h := dist_map (f := fun x => ((dist l).idxOf x : Int)) l (fun x hx y hy h => idx_inj ((mem_dist l).2 hx) ((mem_dist l).2 hy) (Int.ofNat.inj h))
  unfold canon
  exact h.trans (map_idx _ (nodup_dist l))

/-- The number of classes ahead of i. -/
def nUp (xs : List Int) (i : Nat) : Nat := (dist (xs.take i)).length

theorem nUp_le (xs : List Int) (i : Nat) : nUp xs i ≤ i := by
  unfold nUp; have := dist_len (xs.take i); simp at this; omega

theorem nUp_snoc {xs : List Int} {i : Nat} {x : Int} (h : xs[i]? = some x) : xs.take (i + 1) = xs.take i ++ [x] := by
  obtain ⟨hl, rfl⟩ := List.getElem?_eq_some_iff.1 h
  exact List.take_succ_eq_append_getElem hl

/-- The one form's own steps: an old class. -/
theorem form_old {xs : List Int} {i : Nat} {x : Int} (h : xs[i]? = some x) (hc : canon (xs.take i) = xs.take i) (h0 : 0 ≤ x) (h1 : x < nUp xs i) :
    canon (xs.take (i + 1)) = xs.take (i + 1) ∧ nUp xs (i + 1) = nUp xs i := by
  have hd := dist_canon (xs.take i)
  rw [hc] at hd
  obtain ⟨k, rfl⟩ := Int.eq_ofNat_of_zero_le h0
  unfold nUp at h1
  have hk : k < (dist (xs.take i)).length := by omega
  have hm : (k : Int) ∈ dist (xs.take i) := by
    rw [hd, List.mem_map]; exact ⟨k, by simpa using hk, rfl⟩
  have hdd : dist (xs.take (i + 1)) = dist (xs.take i) := by rw [nUp_snoc h, dist_snoc]; unfold addN; rw [if_pos hm]
  refine ⟨?_, by unfold nUp; rw [hdd]⟩
  have hix : (dist (xs.take (i + 1))).idxOf (k : Int) = k := by
    rw [hdd, hd, List.range_eq_range']
    have := idx_range (dist (xs.take i)).length 0 k hk
    simpa using this
  rw [nUp_snoc h] at hix ⊢
  rw [canon_snoc, hix, hc]

/-- .. a new one. -/
theorem form_new {xs : List Int} {i : Nat} {x : Int} (h : xs[i]? = some x) (hc : canon (xs.take i) = xs.take i) (h1 : x = nUp xs i) :
    canon (xs.take (i + 1)) = xs.take (i + 1) ∧ nUp xs (i + 1) = nUp xs i + 1 := by
  have hd := dist_canon (xs.take i)
  rw [hc] at hd
  unfold nUp at h1
  have hm : x ∉ dist (xs.take i) := by
    rw [hd, List.mem_map]; rintro ⟨k, hk, rfl⟩
    rw [List.mem_range] at hk
    have : (k : Int) = ((dist (xs.take i)).length : Int) := h1
    omega
  have hdd : dist (xs.take (i + 1)) = dist (xs.take i) ++ [x] := by rw [nUp_snoc h, dist_snoc]; unfold addN; rw [if_neg hm]
  refine ⟨?_, by unfold nUp; rw [hdd]; simp⟩
  have hix : (dist (xs.take (i + 1))).idxOf x = (dist (xs.take i)).length := by rw [hdd, List.idxOf_append]; simp [hm]
  rw [nUp_snoc h] at hix ⊢
  rw [canon_snoc, hix, hc, ← h1]

/-- .. none at all. -/
theorem form_no {xs : List Int} {i : Nat} {x : Int} (h : xs[i]? = some x) (h1 : x < 0 ∨ (nUp xs i : Int) < x) : canon xs ≠ xs := by
  intro e
  have h2 := canon_get xs i
  rw [e, h] at h2
  simp only [Option.map_some, Option.some.injEq] at h2
  have h3 := idx_append (xs.take (i + 1)) (xs.drop (i + 1)) (y := x) (by rw [nUp_snoc h]; simp)
  rw [List.take_append_drop] at h3
  rw [h3] at h2
  have h4 : (dist (xs.take (i + 1))).idxOf x ≤ nUp xs i := by
    rw [nUp_snoc h, dist_snoc]
    unfold nUp
    by_cases hm : x ∈ dist (xs.take i)
    · rw [idx_addN hm]; exact List.idxOf_le_length
    · rw [idx_new hm]; exact Nat.le_refl _
  omega

/-- The greatest of the one form's numbers, and one more. -/
theorem nUp_canon {xs : List Int} {i : Nat} {x : Int} (h : xs[i]? = some x) :
    (if (nUp xs i : Int) ≤ ((dist xs).idxOf x : Int) then ((dist xs).idxOf x : Int) + 1 else (nUp xs i : Int)) = nUp xs (i + 1) := by
  have h3 := idx_append (xs.take (i + 1)) (xs.drop (i + 1)) (y := x) (by rw [nUp_snoc h]; simp)
  rw [List.take_append_drop] at h3
  rw [h3]
  unfold nUp
  rw [nUp_snoc h, dist_snoc]
  by_cases hm : x ∈ dist (xs.take i)
  · rw [idx_addN hm]
    have := List.idxOf_lt_length_of_mem hm
    unfold addN
    rw [if_pos hm, if_neg (by omega)]
  · rw [idx_new hm]
    unfold addN
    rw [if_neg hm, if_pos (by omega)]
    simp

end Pl
end Go.Proofs.YtclannenknhfpaaGreatDoor

namespace Go.Proofs.YtclannenknhfpaaGreatDoor
namespace Pl

theorem nodup_sub : ∀ (L M : List Nat), L.Nodup → (∀ x ∈ L, x ∈ M) → L.length ≤ M.length
  | [], _, _, _ => by simp
  | x :: L, M, hn, hs => by
    have hx := List.nodup_cons.1 hn
    have hm := hs x List.mem_cons_self
    have ih := nodup_sub L (M.erase x) hx.2 (fun y hy => (List.mem_erase_of_ne (fun e : y = x => hx.1 (e ▸ hy))).2 (hs y (List.mem_cons_of_mem _ hy)))
    rw [List.length_erase_of_mem hm] at ih
    have := List.length_pos_of_mem hm
    simp; omega

section
variable {t : Lts}

theorem taus_nodup (hr : t.Right) (hs : Srt ltE t.es) (k : Nat) : (taus t k).Nodup := by
  have h0 : ∀ y ∈ t.outs (k : Int), 0 ≤ y.1 ∧ 0 ≤ y.2 := fun y hy => by
    have := offB_false.1 (hr.edges _ (mem_outs.1 hy)); simp only at this; omega
  have h1 := outs_srt hs (k : Int)
  unfold taus List.Nodup
  rw [List.pairwise_map]
  have h2 : ((t.outs (k : Int)).takeWhile (fun y => y.1 == 0)).Pairwise (fun a b => ltS a b = true) := List.Pairwise.sublist (List.takeWhile_sublist _) h1
  refine List.Pairwise.imp_of_mem ?_ h2
  intro a b ha hb hab e
  have ma := (takeWhile_mem h1 (fun y hy => (h0 y hy).1) a).1 ha
  have mb := (takeWhile_mem h1 (fun y hy => (h0 y hy).1) b).1 hb
  rw [ltS_iff] at hab
  have qa := h0 a ma.1; have qb := h0 b mb.1
  omega

/-- How many of a state's silent steps lead outside D. -/
def Wt (t : Lts) (D : List Nat) (k : Nat) : Nat := ((taus t k).filter (fun y => !decide (y ∈ D))).length
theorem Wt_nil (k : Nat) : Wt t [] k = (taus t k).length := by
  unfold Wt
  rw [List.filter_eq_self.2]
  intro y _; simp
theorem Wt_zero (hr : t.Right) (hs : Srt ltE t.es) {D : List Nat} {k : Nat} : Wt t D k = 0 ↔ ∀ y, tau t k y → y ∈ D := by
  unfold Wt
  rw [List.length_eq_zero_iff, List.filter_eq_nil_iff]
  constructor
  · intro h y hy
    have := h y ((mem_taus hr hs).2 hy)
    simpa using this
  · intro h y hy
    have := h y ((mem_taus hr hs).1 hy)
    simp [this]

theorem filt_split {D : List Nat} {k : Nat} (hk : k ∉ D) : ∀ (l : List Nat), l.Nodup →
    (l.filter (fun y => !decide (y ∈ D))).length = (l.filter (fun y => !decide (y ∈ D ++ [k]))).length + (if k ∈ l then 1 else 0)
  | [], _ => by simp
  | x :: l, hn => by
    have hx := List.nodup_cons.1 hn
    have ih := filt_split hk l hx.2
    by_cases e : x = k
    · subst e
      have h1 : (!decide (x ∈ D)) = true := by simp [hk]
      have h2 : (!decide (x ∈ D ++ [x])) = false := by simp
      rw [List.filter_cons, List.filter_cons, h1, h2]
      rw [if_neg hx.1] at ih
      simp [ih]
    · have h1 : (k ∈ x :: l) ↔ k ∈ l := by
        rw [List.mem_cons]
        exact ⟨fun h => h.resolve_left (fun e2 => e e2.symm), .inr⟩
      have h2 : (x ∈ D ++ [k]) ↔ x ∈ D := by
        rw [List.mem_append, List.mem_singleton]
        exact ⟨fun h => h.resolve_right e, .inl⟩
      rw [List.filter_cons, List.filter_cons]
      simp only [h1, h2]
      by_cases h3 : x ∈ D
      · simp only [h3, decide_true, Bool.not_true, Bool.false_eq_true, if_false]; exact ih
      · simp only [h3, decide_false, Bool.not_false, if_true, List.length_cons]; omega

theorem Wt_add (hr : t.Right) (hs : Srt ltE t.es) {D : List Nat} {k : Nat} (hk : k ∉ D) (j : Nat) [Decidable (tau t j k)] : Wt t D j = Wt t (D ++ [k]) j + (if tau t j k then 1 else 0) := by
  have h := filt_split hk (taus t j) (taus_nodup hr hs j)
  unfold Wt
  rw [h]
  congr 1
  by_cases h2 : tau t j k
  · rw [if_pos ((mem_taus hr hs).2 h2), if_pos h2]
  · rw [if_neg (fun h3 => h2 ((mem_taus hr hs).1 h3)), if_neg h2]

/-- The next in order. -/
structure IsNext (t : Lts) (m : Nat) (D : List Nat) (k : Nat) : Prop where
  lt : k < m
  new : k ∉ D
  all : Wt t D k = 0
  first : ∀ j, j < k → j ∈ D ∨ Wt t D j ≠ 0
inductive OrdL (t : Lts) (m : Nat) : List Nat → Prop
  | nil : OrdL t m []
  | step {D : List Nat} {k : Nat} : OrdL t m D → IsNext t m D k → OrdL t m (D ++ [k])

theorem IsNext.unique {m : Nat} {D : List Nat} {k k' : Nat} (h : IsNext t m D k) (h' : IsNext t m D k') : k = k' := by
  rcases Nat.lt_trichotomy k k' with h1 | h1 | h1
  · rcases h'.first k h1 with h2 | h2
    · exact absurd h2 h.new
    · exact absurd h.all h2
  · exact h1
  · rcases h.first k' h1 with h2 | h2
    · exact absurd h2 h'.new
    · exact absurd h'.all h2
theorem OrdL.unique {m : Nat} {D D' : List Nat} (h : OrdL t m D) (h' : OrdL t m D') (hl : D.length = D'.length) : D = D' := by
  induction h generalizing D' with
  | nil => cases h' with
    | nil => rfl
    | step _ _ => simp at hl
  | step h1 h2 ih => cases h' with
    | nil => simp at hl
    | step h3 h4 =>
      have := ih h3 (by simpa using hl)
      subst this
      rw [h2.unique h4]
theorem OrdL.nodup {m : Nat} {D : List Nat} (h : OrdL t m D) : D.Nodup := by
  induction h with
  | nil => simp
  | step _ h2 ih =>
    rw [List.nodup_append]
    exact ⟨ih, by simp, fun a ha b hb e => by simp at hb; subst hb; subst e; exact h2.new ha⟩
theorem OrdL.rng {m : Nat} {D : List Nat} (h : OrdL t m D) : ∀ x ∈ D, x < m := by
  induction h with
  | nil => simp
  | step _ h2 ih =>
    intro x hx
    rcases List.mem_append.1 hx with h3 | h3
    · exact ih x h3
    · simp at h3; subst h3; exact h2.lt
/-- What silent steps lead to stands ahead. -/
theorem OrdL.ahead (hr : t.Right) (hs : Srt ltE t.es) {m : Nat} {D : List Nat} (h : OrdL t m D) : ∀ (i k y : Nat), D[i]? = some k → tau t k y → y ∈ D.take i := by
  induction h with
  | nil => simp
  | @step D k' _ h2 ih =>
    intro i k y hi hy
    by_cases hlt : i < D.length
    · rw [List.getElem?_append_left hlt] at hi
      rw [List.take_append_of_le_length (by omega)]
      exact ih i k y hi hy
    · have hl := (List.getElem?_eq_some_iff.1 hi).1
      simp at hl
      obtain rfl : i = D.length := by omega
      simp at hi
      subst hi
      rw [List.take_append_of_le_length (by omega), List.take_length]
      exact (Wt_zero hr hs).1 h2.all y hy
/-- .. so all silent steps of what stands lead to what stands. -/
theorem OrdL.closed (hr : t.Right) (hs : Srt ltE t.es) {m : Nat} {D : List Nat} (h : OrdL t m D) {k y : Nat} (hk : k ∈ D) (hy : tau t k y) : y ∈ D := by
  obtain ⟨i, hi⟩ := List.getElem?_of_mem hk
  exact List.mem_of_mem_take (h.ahead hr hs i k y hi hy)

theorem min_ex (P : Nat → Prop) : (∃ k, P k) → ∃ k, P k ∧ ∀ j, j < k → ¬ P j := by
  rintro ⟨k, hk⟩
  induction k using Nat.strongRecOn with
  | _ k ih =>
    by_cases h : ∃ j, j < k ∧ P j
    · obtain ⟨j, hj, hp⟩ := h
      exact ih j hj hp
    · exact ⟨k, hk, fun j hj hp => h ⟨j, hj, hp⟩⟩

/-- As long as one is left there is a next one, where silent steps lead strictly down. -/
theorem next_ex (hr : t.Right) (hs : Srt ltE t.es) {m : Nat} (hm : t.st = (m : Int)) {F : Nat → Int} (hF : ∀ x y, tau t x y → F y < F x) {D : List Nat} {x : Nat} (hx : x < m) (hxD : x ∉ D) : ∃ k, IsNext t m D k := by
  -- one of least rank among those that are left
  have h1 : ∃ k, k < m ∧ k ∉ D ∧ ∀ y, tau t k y → y ∈ D := by
    have key : ∀ (B : Nat) (x : Nat), x < m → x ∉ D → (F x - F x).toNat ≤ B → True := fun _ _ _ _ _ => trivial
    clear key
    -- by strong induction over how many of those left are below
    have : ∀ (c : Nat) (x : Nat), x < m → x ∉ D → ((List.range m).filter (fun z => decide (F z < F x))).length ≤ c → ∃ k, k < m ∧ k ∉ D ∧ ∀ y, tau t k y → y ∈ D := by
      intro c
      induction c with
      | zero =>
        intro x hx hxD hc
        refine ⟨x, hx, hxD, fun y hy => ?_⟩
        have hyF := hF x y hy
        have hym := (tau_lt hr hm hy).2
        have : y ∈ (List.range m).filter (fun z => decide (F z < F x)) := by simp [hym, hyF]
        have := List.length_pos_of_mem this
        omega
      | succ c ih =>
        intro x hx hxD hc
        by_cases h : ∀ y, tau t x y → y ∈ D
        · exact ⟨x, hx, hxD, h⟩
        · obtain ⟨y, hy⟩ := Classical.not_forall.1 h
          obtain ⟨hy1, hy2⟩ := Classical.not_imp.1 hy
          have hyF := hF x y hy1
          have hym := (tau_lt hr hm hy1).2
          refine ih y hym hy2 ?_
          have hsub : ((List.range m).filter (fun z => decide (F z < F y))).length + 1 ≤ ((List.range m).filter (fun z => decide (F z < F x))).length := by
            have hnd : (y :: (List.range m).filter (fun z => decide (F z < F y))).Nodup := by
              rw [List.nodup_cons]
              exact ⟨by simp, List.Nodup.sublist List.filter_sublist List.nodup_range⟩
            have := nodup_sub _ ((List.range m).filter (fun z => decide (F z < F x))) hnd (fun z hz => by
              rcases List.mem_cons.1 hz with rfl | hz
              · simp [hym, hyF]
              · simp at hz ⊢; omega)
            simpa using this
          omega
    exact this _ x hx hxD (Nat.le_refl _)
  obtain ⟨k, ⟨h2, h3, h4⟩, h5⟩ := min_ex (fun k => k < m ∧ k ∉ D ∧ Wt t D k = 0) (by
    obtain ⟨k, h2, h3, h4⟩ := h1
    exact ⟨k, h2, h3, (Wt_zero hr hs).2 h4⟩)
  refine ⟨k, h2, h3, h4, fun j hj => ?_⟩
  by_cases hjD : j ∈ D
  · exact .inl hjD
  · exact .inr (fun e => h5 j hj ⟨by omega, hjD, e⟩)

end
end Pl
end Go.Proofs.YtclannenknhfpaaGreatDoor

namespace Go.Proofs.YtclannenknhfpaaGreatDoor
namespace Pl

/-- The word whose bits are f. -/
def wd (f : Nat → Bool) : Nat → Nat
  | 0 => 0
  | n + 1 => wd f n ||| (if f n then 2 ^ n else 0)
theorem wd_lt (f : Nat → Bool) : ∀ n, wd f n < 2 ^ n
  | 0 => by simp [wd]
  | n + 1 => by
    have h1 := wd_lt f n
    have h2 : 2 ^ n < 2 ^ (n + 1) := by rw [Nat.pow_succ]; have := Nat.two_pow_pos n; omega
    unfold wd
    refine Nat.or_lt_two_pow (by omega) ?_
    split
    · exact h2
    · exact Nat.two_pow_pos _
theorem wd_bit (f : Nat → Bool) : ∀ n k, (wd f n).testBit k = (decide (k < n) && f k)
  | 0, k => by simp [wd]
  | n + 1, k => by
    unfold wd
    rw [Nat.testBit_or, wd_bit f n k]
    by_cases hf : f n = true
    · rw [if_pos hf, Nat.testBit_two_pow]
      by_cases e : n = k
      · subst e; simp [hf]
      · by_cases h : k < n
        · simp [h, e, show k < n + 1 by omega]
        · simp [h, e, show ¬ k < n + 1 by omega]
    · rw [if_neg hf, Nat.zero_testBit, Bool.or_false]
      by_cases e : n = k
      · subst e; simp at hf; simp [hf]
      · by_cases h : k < n
        · simp [h, show k < n + 1 by omega]
        · simp [h, show ¬ k < n + 1 by omega]

/-- Word j of a set. -/
def wj (F : Nat → Bool) (j : Nat) : Nat := wd (fun k => F (64 * j + k)) 64
theorem wj_lt (F : Nat → Bool) (j : Nat) : wj F j < 18446744073709551616 := wd_lt _ 64
theorem wj_bit (F : Nat → Bool) (j k : Nat) : (wj F j).testBit k = (decide (k < 64) && F (64 * j + k)) := wd_bit _ 64 k
theorem wj_ext {F G : Nat → Bool} {j : Nat} (h : ∀ k, k < 64 → F (64 * j + k) = G (64 * j + k)) : wj F j = wj G j := by
  refine Nat.eq_of_testBit_eq (fun k => ?_)
  rw [wj_bit, wj_bit]
  by_cases hk : k < 64
  · rw [h k hk]
  · simp [hk]
theorem wj_none (j : Nat) : wj (fun _ => false) j = 0 := by
  refine Nat.eq_of_testBit_eq (fun k => ?_)
  rw [wj_bit, Nat.zero_testBit]; simp

def putF (F : Nat → Bool) (i : Nat) (x : Nat) : Bool := F x || decide (x = i)
def dropF (F : Nat → Bool) (i : Nat) (x : Nat) : Bool := F x && !decide (x = i)
theorem wj_put (F : Nat → Bool) (i : Nat) : wj F (i / 64) ||| 2 ^ (i % 64) = wj (putF F i) (i / 64) := by
  refine Nat.eq_of_testBit_eq (fun k => ?_)
  rw [Nat.testBit_or, wj_bit, wj_bit, Nat.testBit_two_pow]
  unfold putF
  by_cases hk : k < 64
  · have : decide (i % 64 = k) = decide (64 * (i / 64) + k = i) := by
      by_cases e : i % 64 = k
      · have : 64 * (i / 64) + k = i := by omega
        simp [e, this]
      · have : ¬ 64 * (i / 64) + k = i := by omega
        simp [e, this]
    rw [this]; simp [hk]
  · have : ¬ i % 64 = k := by omega
    simp [hk, this]
theorem wj_put_ne (F : Nat → Bool) {i j : Nat} (h : j ≠ i / 64) : wj (putF F i) j = wj F j :=
  wj_ext (fun k hk => by unfold putF; have : ¬ 64 * j + k = i := by omega
                         simp [this])
theorem wj_drop (F : Nat → Bool) (i : Nat) : wj F (i / 64) &&& (18446744073709551615 - 2 ^ (i % 64)) = wj (dropF F i) (i / 64) := by
  have hp : 2 ^ (i % 64) < 2 ^ 64 := Nat.pow_lt_pow_right (by decide) (by omega)
  refine Nat.eq_of_testBit_eq (fun k => ?_)
  rw [Nat.testBit_and, wj_bit, wj_bit, show 18446744073709551615 - 2 ^ (i % 64) = 2 ^ 64 - (2 ^ (i % 64) + 1) by omega, Nat.testBit_two_pow_sub_succ hp, Nat.testBit_two_pow]
  unfold dropF
  by_cases hk : k < 64
  · have : decide (i % 64 = k) = decide (64 * (i / 64) + k = i) := by
      by_cases e : i % 64 = k
      · have : 64 * (i / 64) + k = i := by omega
        simp [e, this]
      · have : ¬ 64 * (i / 64) + k = i := by omega
        simp [e, this]
    rw [this]; simp [hk]
  · simp [hk]
theorem wj_drop_ne (F : Nat → Bool) {i j : Nat} (h : j ≠ i / 64) : wj (dropF F i) j = wj F j :=
  wj_ext (fun k hk => by unfold dropF; have : ¬ 64 * j + k = i := by omega
                         simp [this])
theorem bit_mod (x k : Nat) : (x >>> k) &&& 1 = if x.testBit k then 1 else 0 := by
  rw [Nat.and_one_is_mod]
  have h := Nat.testBit_shiftRight (i := k) (j := 0) x
  rw [Nat.add_zero] at h
  rw [← h, Nat.testBit_zero]
  rcases Nat.mod_two_eq_zero_or_one (x >>> k) with e | e <;> simp [e]
theorem wj_has (F : Nat → Bool) (i : Nat) : (wj F (i / 64) >>> (i % 64)) &&& 1 = if F i then 1 else 0 := by
  rw [bit_mod, wj_bit]
  have h1 : i % 64 < 64 := Nat.mod_lt _ (by decide)
  have h2 : 64 * (i / 64) + i % 64 = i := by omega
  rw [h2]; simp [h1]
theorem and_ne {x y : Nat} : x &&& y ≠ 0 ↔ ∃ k, x.testBit k = true ∧ y.testBit k = true := by
  constructor
  · intro h
    apply Classical.byContradiction
    intro hn
    apply h
    refine Nat.eq_of_testBit_eq (fun k => ?_)
    rw [Nat.testBit_and, Nat.zero_testBit]
    by_cases h1 : x.testBit k = true
    · by_cases h2 : y.testBit k = true
      · exact absurd ⟨k, h1, h2⟩ hn
      · simp at h2; simp [h2]
    · simp at h1; simp [h1]
  · rintro ⟨k, h1, h2⟩ h
    have := Nat.testBit_and x y k
    rw [h, Nat.zero_testBit, h1, h2] at this
    cases this
theorem wj_meets (F G : Nat → Bool) (j : Nat) : wj F j &&& wj G j ≠ 0 ↔ ∃ k, k < 64 ∧ F (64 * j + k) = true ∧ G (64 * j + k) = true := by
  rw [and_ne]
  constructor
  · rintro ⟨k, h1, h2⟩
    rw [wj_bit] at h1 h2
    simp at h1 h2
    exact ⟨k, h1.1, h1.2, h2.2⟩
  · rintro ⟨k, h0, h1, h2⟩
    exact ⟨k, by rw [wj_bit]; simp [h0, h1], by rw [wj_bit]; simp [h0, h2]⟩

/-- The lowest bit. -/
theorem low_bit {x : Nat} (h0 : x ≠ 0) (hx : x < 18446744073709551616) : Lib.ctz 64 x < 64 ∧ x.testBit (Lib.ctz 64 x) = true ∧ (∀ k, k < Lib.ctz 64 x → x.testBit k = false) ∧ ∀ k, (x &&& (x - 1)).testBit k = (x.testBit k && !decide (k = Lib.ctz 64 x)) := by
  obtain ⟨m, hm, hk⟩ := Lib.ctzFrom_spec 64 x (by omega) hx
  have e : Lib.ctz 64 x = Lib.ctzFrom 64 x := by simp [Lib.ctz, h0]
  rw [e]
  obtain ⟨t, ht⟩ : ∃ t, t = Lib.ctzFrom 64 x := ⟨_, rfl⟩
  rw [← ht] at hm hk ⊢
  have hp := Nat.two_pow_pos t
  have h2 : 2 ^ (t + 1) = 2 ^ t + 2 ^ t := by rw [Nat.pow_succ]; omega
  have e1 : x = 2 ^ (t + 1) * m + 2 ^ t := by
    have h3 : 2 ^ (t + 1) * m = 2 ^ t * (2 * m) := by rw [Nat.pow_succ, Nat.mul_assoc]
    rw [h3, hm, Nat.mul_add, Nat.mul_one]
  have b1 : ∀ k, x.testBit k = if k < t + 1 then decide (t = k) else m.testBit (k - (t + 1)) := fun k => by
    rw [e1, Nat.testBit_two_pow_mul_add m (by omega) k, Nat.testBit_two_pow]
  have e2 : x - 1 = 2 ^ (t + 1) * m + (2 ^ t - 1) := by omega
  have b2 : ∀ k, (x - 1).testBit k = if k < t + 1 then decide (k < t) else m.testBit (k - (t + 1)) := fun k => by
    rw [e2, Nat.testBit_two_pow_mul_add m (by omega) k, Nat.testBit_two_pow_sub_one]
  refine ⟨hk, by rw [b1, if_pos (by omega)]; simp, fun k h => by rw [b1, if_pos (by omega)]; simp; omega, fun k => ?_⟩
  rw [Nat.testBit_and, b1, b2]
  by_cases h : k < t + 1
  · rw [if_pos h, if_pos h]
    by_cases e : k = t
    · subst e; simp
    · have : ¬ t = k := fun h => e h.symm
      simp [this]
  · rw [if_neg h, if_neg h]
    have : ¬ k = t := by omega
    simp [this]

/-- The members, rising. -/
def idsN (F : Nat → Bool) (m : Nat) : List Nat := (List.range m).filter F
theorem idsN_le (F : Nat → Bool) (m : Nat) : (idsN F m).length ≤ m := by
  unfold idsN
  have := List.length_filter_le F (List.range m)
  simpa using this
theorem idsN_gap {F : Nat → Bool} {m : Nat} : ∀ d, (∀ k, k < d → F (m + k) = false) → idsN F (m + d) = idsN F m
  | 0, _ => rfl
  | d + 1, h => by
    have ih := idsN_gap d (fun k hk => h k (by omega))
    unfold idsN at *
    rw [← Nat.add_assoc, List.range_succ, List.filter_append, ih]
    simp [h d (by omega)]
theorem idsN_hit {F : Nat → Bool} {m : Nat} (h : F m = true) : idsN F (m + 1) = idsN F m ++ [m] := by
  unfold idsN
  rw [List.range_succ, List.filter_append]
  simp [h]
theorem mem_idsN {F : Nat → Bool} {m x : Nat} : x ∈ idsN F m ↔ x < m ∧ F x = true := by
  unfold idsN; simp
/-- One member more: x holds the bits of word j from t on. -/
theorem idsN_step {F : Nat → Bool} {j t x : Nat} (_ht : t ≤ 64) (hx : x < 18446744073709551616) (hb : ∀ k, x.testBit k = (decide (t ≤ k ∧ k < 64) && F (64 * j + k))) (h0 : x ≠ 0) :
    Lib.ctz 64 x < 64 ∧ t ≤ Lib.ctz 64 x ∧ idsN F (64 * j + (Lib.ctz 64 x + 1)) = idsN F (64 * j + t) ++ [64 * j + Lib.ctz 64 x] ∧ (∀ k, (x &&& (x - 1)).testBit k = (decide (Lib.ctz 64 x + 1 ≤ k ∧ k < 64) && F (64 * j + k))) := by
  obtain ⟨h1, h2, h3, h4⟩ := low_bit h0 hx
  obtain ⟨c, hc⟩ : ∃ c, c = Lib.ctz 64 x := ⟨_, rfl⟩
  rw [← hc] at h1 h2 h3 h4 ⊢
  rw [hb] at h2
  simp at h2
  refine ⟨h1, h2.1.1, ?_, fun k => ?_⟩
  · have hg : idsN F (64 * j + c) = idsN F (64 * j + t) := by
      have := idsN_gap (F := F) (m := 64 * j + t) (c - t) (fun k hk => by
        have h5 := h3 (t + k) (by omega)
        rw [hb] at h5
        simp at h5
        have := h5 (by omega)
        rw [Nat.add_assoc]; exact this)
      rw [show 64 * j + c = 64 * j + t + (c - t) by omega]; exact this
    rw [← Nat.add_assoc, idsN_hit h2.2, hg]
  · rw [h4, hb]
    by_cases e : k = c
    · subst e
      have : ¬ (k + 1 ≤ k ∧ k < 64) := by omega
      simp only [this, decide_false, Bool.false_and]; simp
    · by_cases hk : k < c
      · have h5 := h3 k hk
        rw [hb] at h5
        have : ¬ (c + 1 ≤ k ∧ k < 64) := by omega
        rw [h5]; simp [this]
      · by_cases h6 : k < 64
        · have e1 : t ≤ k ∧ k < 64 := by omega
          have e2 : c + 1 ≤ k ∧ k < 64 := by omega
          simp [e, e1, e2]
        · have e1 : ¬ (t ≤ k ∧ k < 64) := by omega
          have e2 : ¬ (c + 1 ≤ k ∧ k < 64) := by omega
          simp [e1, e2]
theorem idsN_end {F : Nat → Bool} {j t : Nat} (ht : t ≤ 64) (hb : ∀ k, (0 : Nat).testBit k = (decide (t ≤ k ∧ k < 64) && F (64 * j + k))) : idsN F (64 * (j + 1)) = idsN F (64 * j + t) := by
  rw [show 64 * (j + 1) = 64 * j + t + (64 - t) by omega]
  refine idsN_gap _ (fun k hk => ?_)
  have h5 := hb (t + k)
  rw [Nat.zero_testBit] at h5
  have e1 : t ≤ t + k ∧ t + k < 64 := by omega
  simp only [e1, decide_true, and_self, Bool.true_and] at h5
  rw [Nat.add_assoc]; exact h5.symm
end Pl
end Go.Proofs.YtclannenknhfpaaGreatDoor
