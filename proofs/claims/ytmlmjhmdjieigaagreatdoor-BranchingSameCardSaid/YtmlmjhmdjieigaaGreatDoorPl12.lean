/-
  Plain: the order in which what silent steps lead to stands ahead.
-/
import Derived.Test.YtmlmjhmdjieigaaGreatDoorGPlT
namespace Go.Proofs.YtmlmjhmdjieigaaGreatDoor
namespace Pl

theorem nodup_sub : ∀ (L M : List Nat), L.Nodup → (∀ x ∈ L, x ∈ M) → L.length ≤ M.length
  | [], _, _, _ => by simp
  | x :: L, M, hn, hs => by
    have hx := List.nodup_cons.1 hn
    have hm := hs x List.mem_cons_self
    have ih := nodup_sub L (M.erase x) hx.2 (fun y hy => (List.mem_erase_of_ne (fun e : y = x => hx.1 (e ▸ hy))).2 (hs y (List.mem_cons_of_mem _ hy)))
    rw [List.length_erase_of_mem hm] at ih
    have := List.length_pos_of_mem hm
    simp; omega

section
variable {t : Lts}

theorem taus_nodup (hr : t.Right) (hs : Srt ltE t.es) (k : Nat) : (taus t k).Nodup := by
  have h0 : ∀ y ∈ t.outs (k : Int), 0 ≤ y.1 ∧ 0 ≤ y.2 := fun y hy => by
    have := offB_false.1 (hr.edges _ (mem_outs.1 hy)); simp only at this; omega
  have h1 := outs_srt hs (k : Int)
  unfold taus List.Nodup
  rw [List.pairwise_map]
  have h2 : ((t.outs (k : Int)).takeWhile (fun y => y.1 == 0)).Pairwise (fun a b => ltS a b = true) := List.Pairwise.sublist (List.takeWhile_sublist _) h1
  refine List.Pairwise.imp_of_mem ?_ h2
  intro a b ha hb hab e
  have ma := (takeWhile_mem h1 (fun y hy => (h0 y hy).1) a).1 ha
  have mb := (takeWhile_mem h1 (fun y hy => (h0 y hy).1) b).1 hb
  rw [ltS_iff] at hab
  have qa := h0 a ma.1; have qb := h0 b mb.1
  omega

/-- How many of a state's silent steps lead outside D. -/
def Wt (t : Lts) (D : List Nat) (k : Nat) : Nat := ((taus t k).filter (fun y => !decide (y ∈ D))).length
theorem Wt_nil (k : Nat) : Wt t [] k = (taus t k).length := by
  unfold Wt
  rw [List.filter_eq_self.2]
  intro y _; simp
theorem Wt_zero (hr : t.Right) (hs : Srt ltE t.es) {D : List Nat} {k : Nat} : Wt t D k = 0 ↔ ∀ y, tau t k y → y ∈ D := by
  unfold Wt
  rw [List.length_eq_zero_iff, List.filter_eq_nil_iff]
  constructor
  · intro h y hy
    have := h y ((mem_taus hr hs).2 hy)
    simpa using this
  · intro h y hy
    have := h y ((mem_taus hr hs).1 hy)
    simp [this]

theorem filt_split {D : List Nat} {k : Nat} (hk : k ∉ D) : ∀ (l : List Nat), l.Nodup →
    (l.filter (fun y => !decide (y ∈ D))).length = (l.filter (fun y => !decide (y ∈ D ++ [k]))).length + (if k ∈ l then 1 else 0)
  | [], _ => by simp
  | x :: l, hn => by
    have hx := List.nodup_cons.1 hn
    have ih := filt_split hk l hx.2
    by_cases e : x = k
    · subst e
      have h1 : (!decide (x ∈ D)) = true := by simp [hk]
      have h2 : (!decide (x ∈ D ++ [x])) = false := by simp
      rw [List.filter_cons, List.filter_cons, h1, h2]
      rw [if_neg hx.1] at ih
      simp [ih]
    · have h1 : (k ∈ x :: l) ↔ k ∈ l := by
        rw [List.mem_cons]
        exact ⟨fun h => h.resolve_left (fun e2 => e e2.symm), .inr⟩
      have h2 : (x ∈ D ++ [k]) ↔ x ∈ D := by
        rw [List.mem_append, List.mem_singleton]
        exact ⟨fun h => h.resolve_right e, .inl⟩
      rw [List.filter_cons, List.filter_cons]
      simp only [h1, h2]
      by_cases h3 : x ∈ D
      · simp only [h3, decide_true, Bool.not_true, Bool.false_eq_true, if_false]; exact ih
      · simp only [h3, decide_false, Bool.not_false, if_true, List.length_cons]; omega

theorem Wt_add (hr : t.Right) (hs : Srt ltE t.es) {D : List Nat} {k : Nat} (hk : k ∉ D) (j : Nat) [Decidable (tau t j k)] : Wt t D j = Wt t (D ++ [k]) j + (if tau t j k then 1 else 0) := by
  have h := filt_split hk (taus t j) (taus_nodup hr hs j)
  unfold Wt
  rw [h]
  congr 1
  by_cases h2 : tau t j k
  · rw [if_pos ((mem_taus hr hs).2 h2), if_pos h2]
  · rw [if_neg (fun h3 => h2 ((mem_taus hr hs).1 h3)), if_neg h2]

/-- The next in order. -/
structure IsNext (t : Lts) (m : Nat) (D : List Nat) (k : Nat) : Prop where
  lt : k < m
  new : k ∉ D
  all : Wt t D k = 0
  first : ∀ j, j < k → j ∈ D ∨ Wt t D j ≠ 0
inductive OrdL (t : Lts) (m : Nat) : List Nat → Prop
  | nil : OrdL t m []
  | step {D : List Nat} {k : Nat} : OrdL t m D → IsNext t m D k → OrdL t m (D ++ [k])

theorem IsNext.unique {m : Nat} {D : List Nat} {k k' : Nat} (h : IsNext t m D k) (h' : IsNext t m D k') : k = k' := by
  rcases Nat.lt_trichotomy k k' with h1 | h1 | h1
  · rcases h'.first k h1 with h2 | h2
    · exact absurd h2 h.new
    · exact absurd h.all h2
  · exact h1
  · rcases h.first k' h1 with h2 | h2
    · exact absurd h2 h'.new
    · exact absurd h'.all h2
theorem OrdL.unique {m : Nat} {D D' : List Nat} (h : OrdL t m D) (h' : OrdL t m D') (hl : D.length = D'.length) : D = D' := by
  induction h generalizing D' with
  | nil => cases h' with
    | nil => rfl
    | step _ _ => simp at hl
  | step h1 h2 ih => cases h' with
    | nil => simp at hl
    | step h3 h4 =>
      have := ih h3 (by simpa using hl)
      subst this
      rw [h2.unique h4]
theorem OrdL.nodup {m : Nat} {D : List Nat} (h : OrdL t m D) : D.Nodup := by
  induction h with
  | nil => simp
  | step _ h2 ih =>
    rw [List.nodup_append]
    exact ⟨ih, by simp, fun a ha b hb e => by simp at hb; subst hb; subst e; exact h2.new ha⟩
theorem OrdL.rng {m : Nat} {D : List Nat} (h : OrdL t m D) : ∀ x ∈ D, x < m := by
  induction h with
  | nil => simp
  | step _ h2 ih =>
    intro x hx
    rcases List.mem_append.1 hx with h3 | h3
    · exact ih x h3
    · simp at h3; subst h3; exact h2.lt
/-- What silent steps lead to stands ahead. -/
theorem OrdL.ahead (hr : t.Right) (hs : Srt ltE t.es) {m : Nat} {D : List Nat} (h : OrdL t m D) : ∀ (i k y : Nat), D[i]? = some k → tau t k y → y ∈ D.take i := by
  induction h with
  | nil => simp
  | @step D k' _ h2 ih =>
    intro i k y hi hy
    by_cases hlt : i < D.length
    · rw [List.getElem?_append_left hlt] at hi
      rw [List.take_append_of_le_length (by omega)]
      exact ih i k y hi hy
    · have hl := (List.getElem?_eq_some_iff.1 hi).1
      simp at hl
      obtain rfl : i = D.length := by omega
      simp at hi
      subst hi
      rw [List.take_append_of_le_length (by omega), List.take_length]
      exact (Wt_zero hr hs).1 h2.all y hy
/-- .. so all silent steps of what stands lead to what stands. -/
theorem OrdL.closed (hr : t.Right) (hs : Srt ltE t.es) {m : Nat} {D : List Nat} (h : OrdL t m D) {k y : Nat} (hk : k ∈ D) (hy : tau t k y) : y ∈ D := by
  obtain ⟨i, hi⟩ := List.getElem?_of_mem hk
  exact List.mem_of_mem_take (h.ahead hr hs i k y hi hy)

theorem min_ex (P : Nat → Prop) : (∃ k, P k) → ∃ k, P k ∧ ∀ j, j < k → ¬ P j := by
  rintro ⟨k, hk⟩
  induction k using Nat.strongRecOn with
  | _ k ih =>
    by_cases h : ∃ j, j < k ∧ P j
    · obtain ⟨j, hj, hp⟩ := h
      exact ih j hj hp
    · exact ⟨k, hk, fun j hj hp => h ⟨j, hj, hp⟩⟩

/-- As long as one is left there is a next one, where silent steps lead strictly down. -/
theorem next_ex (hr : t.Right) (hs : Srt ltE t.es) {m : Nat} (hm : t.st = (m : Int)) {F : Nat → Int} (hF : ∀ x y, tau t x y → F y < F x) {D : List Nat} {x : Nat} (hx : x < m) (hxD : x ∉ D) : ∃ k, IsNext t m D k := by
  -- one of least rank among those that are left
  have h1 : ∃ k, k < m ∧ k ∉ D ∧ ∀ y, tau t k y → y ∈ D := by
    have key : ∀ (B : Nat) (x : Nat), x < m → x ∉ D → (F x - F x).toNat ≤ B → True := fun _ _ _ _ _ => trivial
    clear key
    -- by strong induction over how many of those left are below
    have : ∀ (c : Nat) (x : Nat), x < m → x ∉ D → ((List.range m).filter (fun z => decide (F z < F x))).length ≤ c → ∃ k, k < m ∧ k ∉ D ∧ ∀ y, tau t k y → y ∈ D := by
      intro c
      induction c with
      | zero =>
        intro x hx hxD hc
        refine ⟨x, hx, hxD, fun y hy => ?_⟩
        have hyF := hF x y hy
        have hym := (tau_lt hr hm hy).2
        have : y ∈ (List.range m).filter (fun z => decide (F z < F x)) := by simp [hym, hyF]
        have := List.length_pos_of_mem this
        omega
      | succ c ih =>
        intro x hx hxD hc
        by_cases h : ∀ y, tau t x y → y ∈ D
        · exact ⟨x, hx, hxD, h⟩
        · obtain ⟨y, hy⟩ := Classical.not_forall.1 h
          obtain ⟨hy1, hy2⟩ := Classical.not_imp.1 hy
          have hyF := hF x y hy1
          have hym := (tau_lt hr hm hy1).2
          refine ih y hym hy2 ?_
          have hsub : ((List.range m).filter (fun z => decide (F z < F y))).length + 1 ≤ ((List.range m).filter (fun z => decide (F z < F x))).length := by
            have hnd : (y :: (List.range m).filter (fun z => decide (F z < F y))).Nodup := by
              rw [List.nodup_cons]
              exact ⟨by simp, List.Nodup.sublist List.filter_sublist List.nodup_range⟩
            have := nodup_sub _ ((List.range m).filter (fun z => decide (F z < F x))) hnd (fun z hz => by
              rcases List.mem_cons.1 hz with rfl | hz
              · simp [hym, hyF]
              · simp at hz ⊢; omega)
            simpa using this
          omega
    exact this _ x hx hxD (Nat.le_refl _)
  obtain ⟨k, ⟨h2, h3, h4⟩, h5⟩ := min_ex (fun k => k < m ∧ k ∉ D ∧ Wt t D k = 0) (by
    obtain ⟨k, h2, h3, h4⟩ := h1
    exact ⟨k, h2, h3, (Wt_zero hr hs).2 h4⟩)
  refine ⟨k, h2, h3, h4, fun j hj => ?_⟩
  by_cases hjD : j ∈ D
  · exact .inl hjD
  · exact .inr (fun e => h5 j hj ⟨by omega, hjD, e⟩)

end
end Pl
end Go.Proofs.YtmlmjhmdjieigaaGreatDoor
