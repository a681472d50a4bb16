/-
  Plain: the one form, list by list: its beginnings, how it is told from others.
  Plain: the collapsed system; it has no cycle of silent steps and is its own collapse.
  Plain: what the statements on strong bisimilarity ask: steps met by classes, classes that could be one, states with other numbers, runs that may be played.
  Plain: the order in which what silent steps lead to stands ahead.
-/
import Derived.Test.YtmlmjhmdjieigaaGreatDoorGPl1
import Derived.Test.YtmlmjhmdjieigaaGreatDoorGPl10
namespace Go.Proofs.YtmlmjhmdjieigaaGreatDoor
namespace Pl

theorem canon_snoc (l : List Int) (x : Int) : canon (l ++ [x]) = canon l ++ [((dist (l ++ [x])).idxOf x : Int)] := by
  unfold canon
  rw [List.map_append, List.map_cons, List.map_nil]
  congr 1
  apply List.map_congr_left
  intro y hy
  rw [idx_append l [x] hy]

theorem canon_take (xs : List Int) (i : Nat) : (canon xs).take i = canon (xs.take i) := by
  unfold canon
  rw [← List.map_take]
  apply List.map_congr_left
  intro y hy
  conv => lhs; rw [← List.take_append_drop i xs]
  rw [idx_append _ _ hy]

theorem idx_range : ∀ (n a : Nat) (x : Nat), x < n → ((List.range' a n).map Int.ofNat).idxOf ((a + x : Nat) : Int) = x
  | 0, _, _, h => by omega
  | n + 1, a, 0, _ => by simp [List.range'_succ]
  | n + 1, a, x + 1, h => by
    rw [List.range'_succ, List.map_cons, List.idxOf_cons]
    have hb : (Int.ofNat a == ((a + (x + 1) : Nat) : Int)) = false := by simp; omega
    rw [hb]
    have := idx_range n (a + 1) x (by omega)
    rw [show a + (x + 1) = a + 1 + x by omega]
    simp only [cond_false, this]

theorem map_idx : ∀ (l : List Int), l.Nodup → l.map (fun x => (l.idxOf x : Int)) = (List.range l.length).map Int.ofNat := by
  intro l hn
  apply List.ext_getElem?
  intro i
  rw [List.getElem?_map, List.getElem?_map]
  by_cases h : i < l.length
  · rw [List.getElem?_eq_getElem h, List.getElem?_range h]
    simp only [Option.map_some]
    congr 1
    have := List.Nodup.idxOf_getElem hn i h
    rw [this]; rfl
  · rw [List.getElem?_eq_none (by omega), List.getElem?_eq_none (by simp; omega)]; rfl

theorem dist_canon (l : List Int) : dist (canon l) = (List.range (dist l).length).map Int.ofNat := by
  have h := dist_map (f := fun x => ((dist l).idxOf x : Int)) l (fun x hx y hy h => idx_inj ((mem_dist l).2 hx) ((mem_dist l).2 hy) (Int.ofNat.inj h))
  unfold canon
  exact h.trans (map_idx _ (nodup_dist l))

/-- The number of classes ahead of i. -/
def nUp (xs : List Int) (i : Nat) : Nat := (dist (xs.take i)).length

theorem nUp_le (xs : List Int) (i : Nat) : nUp xs i ≤ i := by
  unfold nUp; have := dist_len (xs.take i); simp at this; omega

theorem nUp_snoc {xs : List Int} {i : Nat} {x : Int} (h : xs[i]? = some x) : xs.take (i + 1) = xs.take i ++ [x] := by
  obtain ⟨hl, rfl⟩ := List.getElem?_eq_some_iff.1 h
  exact List.take_succ_eq_append_getElem hl

/-- The one form's own steps: an old class. -/
theorem form_old {xs : List Int} {i : Nat} {x : Int} (h : xs[i]? = some x) (hc : canon (xs.take i) = xs.take i) (h0 : 0 ≤ x) (h1 : x < nUp xs i) :
    canon (xs.take (i + 1)) = xs.take (i + 1) ∧ nUp xs (i + 1) = nUp xs i := by
  have hd := dist_canon (xs.take i)
  rw [hc] at hd
  obtain ⟨k, rfl⟩ := Int.eq_ofNat_of_zero_le h0
  unfold nUp at h1
  have hk : k < (dist (xs.take i)).length := by omega
  have hm : (k : Int) ∈ dist (xs.take i) := by
    rw [hd, List.mem_map]; exact ⟨k, by simpa using hk, rfl⟩
  have hdd : dist (xs.take (i + 1)) = dist (xs.take i) := by rw [nUp_snoc h, dist_snoc]; unfold addN; rw [if_pos hm]
  refine ⟨?_, by unfold nUp; rw [hdd]⟩
  have hix : (dist (xs.take (i + 1))).idxOf (k : Int) = k := by
    rw [hdd, hd, List.range_eq_range']
    have := idx_range (dist (xs.take i)).length 0 k hk
    simpa using this
  rw [nUp_snoc h] at hix ⊢
  rw [canon_snoc, hix, hc]

/-- .. a new one. -/
theorem form_new {xs : List Int} {i : Nat} {x : Int} (h : xs[i]? = some x) (hc : canon (xs.take i) = xs.take i) (h1 : x = nUp xs i) :
    canon (xs.take (i + 1)) = xs.take (i + 1) ∧ nUp xs (i + 1) = nUp xs i + 1 := by
  have hd := dist_canon (xs.take i)
  rw [hc] at hd
  unfold nUp at h1
  have hm : x ∉ dist (xs.take i) := by
    rw [hd, List.mem_map]; rintro ⟨k, hk, rfl⟩
    rw [List.mem_range] at hk
    have : (k : Int) = ((dist (xs.take i)).length : Int) := h1
    omega
  have hdd : dist (xs.take (i + 1)) = dist (xs.take i) ++ [x] := by rw [nUp_snoc h, dist_snoc]; unfold addN; rw [if_neg hm]
  refine ⟨?_, by unfold nUp; rw [hdd]; simp⟩
  have hix : (dist (xs.take (i + 1))).idxOf x = (dist (xs.take i)).length := by rw [hdd, List.idxOf_append]; simp [hm]
  rw [nUp_snoc h] at hix ⊢
  rw [canon_snoc, hix, hc, ← h1]

/-- .. none at all. -/
theorem form_no {xs : List Int} {i : Nat} {x : Int} (h : xs[i]? = some x) (h1 : x < 0 ∨ (nUp xs i : Int) < x) : canon xs ≠ xs := by
  intro e
  have h2 := canon_get xs i
  rw [e, h] at h2
  simp only [Option.map_some, Option.some.injEq] at h2
  have h3 := idx_append (xs.take (i + 1)) (xs.drop (i + 1)) (y := x) (by rw [nUp_snoc h]; simp)
  rw [List.take_append_drop] at h3
  rw [h3] at h2
  have h4 : (dist (xs.take (i + 1))).idxOf x ≤ nUp xs i := by
    rw [nUp_snoc h, dist_snoc]
    unfold nUp
    by_cases hm : x ∈ dist (xs.take i)
    · rw [idx_addN hm]; exact List.idxOf_le_length
    · rw [idx_new hm]; exact Nat.le_refl _
  omega

/-- The greatest of the one form's numbers, and one more. -/
theorem nUp_canon {xs : List Int} {i : Nat} {x : Int} (h : xs[i]? = some x) :
    (if (nUp xs i : Int) ≤ ((dist xs).idxOf x : Int) then ((dist xs).idxOf x : Int) + 1 else (nUp xs i : Int)) = nUp xs (i + 1) := by
  have h3 := idx_append (xs.take (i + 1)) (xs.drop (i + 1)) (y := x) (by rw [nUp_snoc h]; simp)
  rw [List.take_append_drop] at h3
  rw [h3]
  unfold nUp
  rw [nUp_snoc h, dist_snoc]
  by_cases hm : x ∈ dist (xs.take i)
  · rw [idx_addN hm]
    have := List.idxOf_lt_length_of_mem hm
    unfold addN
    rw [if_pos hm, if_neg (by omega)]
  · rw [idx_new hm]
    unfold addN
    rw [if_neg hm, if_pos (by omega)]
    simp

end Pl
end Go.Proofs.YtmlmjhmdjieigaaGreatDoor

namespace Go.Proofs.YtmlmjhmdjieigaaGreatDoor
namespace Pl

/-- The class of a number. -/
def atL (c : List Int) (x : Int) : Int := c.getD x.toNat 0
def colE (c : List Int) (es : List E) : List E := (es.map (fun x => (atL c x.1, x.2.1, atL c x.2.2))).filter (fun y => !(decide (y.2.1 = 0) && decide (y.1 = y.2.2)))
/-- The collapsed system, by classes. -/
def col (s : Lts) (c : List Int) : Lts := ⟨((dist c).length : Int), s.lb, if s.st = 0 then 0 else atL c s.s0, nf ltE (colE c s.es)⟩

theorem mem_colE {c : List Int} {es : List E} {y : E} : y ∈ colE c es ↔ ∃ x ∈ es, y = (atL c x.1, x.2.1, atL c x.2.2) ∧ ¬ (y.2.1 = 0 ∧ y.1 = y.2.2) := by
  unfold colE
  rw [List.mem_filter, List.mem_map]
  constructor
  · rintro ⟨⟨x, hx, rfl⟩, h⟩
    refine ⟨x, hx, rfl, fun ⟨h1, h2⟩ => ?_⟩
    have h1' : x.2.1 = 0 := h1
    have h2' : atL c x.1 = atL c x.2.2 := h2
    simp [h1', h2'] at h
  · rintro ⟨x, hx, rfl, h⟩
    refine ⟨⟨x, hx, rfl⟩, ?_⟩
    by_cases h1 : x.2.1 = 0
    · have h2 : ¬ atL c x.1 = atL c x.2.2 := fun e => h ⟨h1, e⟩
      simp [h2]
    · simp [h1]
theorem colE_len (c : List Int) (es : List E) : (colE c es).length ≤ es.length := by
  unfold colE
  have := List.length_filter_le (fun y : E => !(decide (y.2.1 = 0) && decide (y.1 = y.2.2))) (es.map (fun x => (atL c x.1, x.2.1, atL c x.2.2)))
  rw [List.length_map] at this
  exact this
theorem col_srt (s : Lts) (c : List Int) : Srt ltE (col s c).es := srt_nf stoE _

theorem atL_fl {n : Nat} {f : Nat → Int} {x : Int} (h0 : 0 ≤ x) (h : x < (n : Int)) : atL (fl n f) x = f x.toNat := by
  unfold atL
  have : (fl n f)[x.toNat]? = some (f x.toNat) := fl_get f (by omega)
  rw [List.getD_eq_getElem?_getD, this]; rfl

section
variable {s : Lts} {n : Nat} {f : Nat → Int}

theorem dist_clf (n : Nat) (f : Nat → Int) : dist (fl n (clf n f)) = (List.range (dist (fl n f)).length).map Int.ofNat := by
  rw [← canon_fl, canon_dist]
theorem dist_clf_len (n : Nat) (f : Nat → Int) : (dist (fl n (clf n f))).length = (dist (fl n f)).length := by rw [dist_clf]; simp
theorem dist_pos {n : Nat} {f : Nat → Int} (h : 0 < n) : 0 < (dist (fl n f)).length := by
  have h1 : f 0 ∈ dist (fl n f) := (mem_dist _).2 (List.mem_of_getElem? (fl_get f h))
  exact List.length_pos_of_mem h1
theorem dist_le (n : Nat) (f : Nat → Int) : (dist (fl n f)).length ≤ n := by have := dist_len (fl n f); rw [fl_len] at this; exact this

/-- The collapsed system is one. -/
theorem col_right (hr : s.Right) (hn : s.st = (n : Int)) : (col s (fl n (clf n f))).Right := by
  have h0 := hr.st0
  have hd := dist_le n f
  have hdl := dist_clf_len n f
  have hat : ∀ x : Int, 0 ≤ x → x < (n : Int) → 0 ≤ atL (fl n (clf n f)) x ∧ atL (fl n (clf n f)) x < ((dist (fl n f)).length : Int) := by
    intro x h1 h2
    rw [atL_fl h1 h2]
    exact clf_rng (by omega)
  refine ⟨?_, fun y hy => ?_⟩
  · have h2 := colE_len (fl n (clf n f)) s.es
    have h3 := length_nf (lt := ltE) (colE (fl n (clf n f)) s.es)
    have h4 : 0 ≤ (col s (fl n (clf n f))).s0 ∧ ((col s (fl n (clf n f))).s0 = 0 ∨ (col s (fl n (clf n f))).s0 < ((dist (fl n f)).length : Int)) := by
      simp only [col]
      split
      · omega
      · rename_i hne
        have := hat s.s0 (by omega) (by omega)
        omega
    unfold HeadBad
    simp only [col] at *
    omega
  · obtain ⟨x, hx, rfl, _⟩ := mem_colE.1 ((mem_nf stoE y _).1 hy)
    have h1 := offB_false.1 (hr.edges x hx)
    have h2 := hat x.1 (by omega) (by omega)
    have h3 := hat x.2.2 (by omega) (by omega)
    rw [offB_false]
    simp only [col]
    omega

/-- A silent step of the collapsed system is one of the system, between two classes. -/
theorem tau_col (hr : s.Right) (hn : s.st = (n : Int)) {X Y : Nat} (h : tau (col s (fl n (clf n f))) X Y) : X ≠ Y ∧ ∃ x y, x < n ∧ y < n ∧ tau s x y ∧ clf n f x = (X : Int) ∧ clf n f y = (Y : Int) := by
  obtain ⟨e, he, heq, hne⟩ := mem_colE.1 ((mem_nf stoE _ _).1 h)
  have h1 := offB_false.1 (hr.edges e he)
  simp only [Prod.mk.injEq] at heq
  obtain ⟨q1, q2, q3⟩ := heq
  rw [atL_fl (by omega) (by omega)] at q1 q3
  refine ⟨fun e2 => hne ⟨rfl, by rw [e2]⟩, e.1.toNat, e.2.2.toNat, by omega, by omega, ?_, q1.symm, q3.symm⟩
  unfold tau
  rw [show ((e.1.toNat : Nat) : Int) = e.1 by omega, show ((e.2.2.toNat : Nat) : Int) = e.2.2 by omega, q2]
  exact he

/-- The number of a class's states. -/
noncomputable def rank (n : Nat) (f : Nat → Int) (X : Nat) : Int := (dist (fl n f)).getD X 0
theorem rank_of {n : Nat} {f : Nat → Int} {x X : Nat} (hx : x < n) (h : clf n f x = (X : Int)) : rank n f X = f x := by
  have hm : f x ∈ dist (fl n f) := (mem_dist _).2 (List.mem_of_getElem? (fl_get f hx))
  have h1 := List.idxOf_lt_length_of_mem hm
  have h2 : (dist (fl n f))[(dist (fl n f)).idxOf (f x)] = f x := List.getElem_idxOf h1
  unfold clf at h
  have hX : (dist (fl n f)).idxOf (f x) = X := by omega
  unfold rank
  subst hX
  rw [List.getD_eq_getElem?_getD, List.getElem?_eq_getElem h1, Option.getD_some, h2]

theorem rank_down (hr : s.Right) (hn : s.st = (n : Int)) (hc : Cyc s n f) {X Y : Nat} (h : tau (col s (fl n (clf n f))) X Y) : rank n f Y < rank n f X := by
  obtain ⟨hne, x, y, hx, hy, hxy, h1, h2⟩ := tau_col hr hn h
  rw [rank_of hx h1, rank_of hy h2]
  have h3 := hc.down x y hxy
  have h4 : f x ≠ f y := fun e => hne (by have := (clf_eq hx hy).2 e; omega)
  omega

theorem rank_TR (hr : s.Right) (hn : s.st = (n : Int)) (hc : Cyc s n f) {X Y : Nat} (h : TR (col s (fl n (clf n f))) X Y) : X = Y ∨ rank n f Y < rank n f X := by
  induction h with
  | refl => exact .inl rfl
  | tail _ ht ih =>
    have := rank_down hr hn hc ht
    rcases ih with rfl | h
    · exact .inr this
    · exact .inr (by omega)

/-- No cycle of silent steps is left. -/
theorem col_apart (hr : s.Right) (hn : s.st = (n : Int)) (hc : Cyc s n f) {m : Nat} {g : Nat → Int} (hg : Cyc (col s (fl n (clf n f))) m g) : canon (fl m g) = (List.range m).map Int.ofNat := by
  apply canon_inj
  intro X Y hX hY h
  obtain ⟨h1, h2⟩ := (hg.same X Y hX hY).1 h
  rcases rank_TR hr hn hc h1 with h3 | h3
  · exact h3
  · rcases rank_TR hr hn hc h2 with h4 | h4
    · exact h4.symm
    · omega

/-- It is its own collapse. -/
theorem col_col (hr : s.Right) (hn : s.st = (n : Int)) : col (col s (fl n (clf n f))) ((List.range (dist (fl n f)).length).map Int.ofNat) = col s (fl n (clf n f)) := by
  obtain ⟨m, hm⟩ : ∃ m, m = (dist (fl n f)).length := ⟨_, rfl⟩
  obtain ⟨t, ht⟩ : ∃ t, t = col s (fl n (clf n f)) := ⟨_, rfl⟩
  have htr : t.Right := by rw [ht]; exact col_right hr hn
  have hst : t.st = (m : Int) := by rw [ht, hm]; show ((dist (fl n (clf n f))).length : Int) = _; rw [dist_clf_len]
  have hes : Srt ltE t.es := by rw [ht]; exact col_srt s _
  have hne : ∀ y ∈ t.es, ¬ (y.2.1 = 0 ∧ y.1 = y.2.2) := by
    intro y hy
    rw [ht] at hy
    obtain ⟨x, _, _, h⟩ := mem_colE.1 ((mem_nf stoE _ _).1 hy)
    exact h
  have hs0 : t.st = 0 → t.s0 = 0 := fun h => by
    have := htr.st0; omega
  have hat : ∀ x : Int, 0 ≤ x → x < (m : Int) → atL ((List.range m).map Int.ofNat) x = x := by
    intro x h1 h2
    unfold atL
    have : ((List.range m).map Int.ofNat)[x.toNat]? = some x := by
      have h3 : x.toNat < m := by omega
      simp [h3]; omega
    rw [List.getD_eq_getElem?_getD, this]; rfl
  rw [← hm, ← ht]
  have h1 : ((dist ((List.range m).map Int.ofNat)).length : Int) = t.st := by rw [dist_ofNat, hst]; simp
  have h2 : (if t.st = 0 then 0 else atL ((List.range m).map Int.ofNat) t.s0) = t.s0 := by
    split
    · rename_i h; exact (hs0 h).symm
    · have := htr.st0; exact hat _ (by omega) (by omega)
  have h3 : nf ltE (colE ((List.range m).map Int.ofNat) t.es) = t.es := by
    symm
    apply eq_nf stoE hes
    intro y
    rw [mem_colE]
    constructor
    · intro hy
      have := offB_false.1 (htr.edges y hy)
      refine ⟨y, hy, ?_, hne y hy⟩
      rw [hat _ (by omega) (by omega), hat _ (by omega) (by omega)]
    · rintro ⟨x, hx, rfl, _⟩
      have := offB_false.1 (htr.edges x hx)
      rw [hat _ (by omega) (by omega), hat _ (by omega) (by omega)]
      exact hx
  show Lts.mk _ _ _ _ = t
  rw [h1, h2, h3]

end
end Pl
end Go.Proofs.YtmlmjhmdjieigaaGreatDoor

namespace Go.Proofs.YtmlmjhmdjieigaaGreatDoor
namespace Pl

section
variable {s : Lts} {n : Nat}

/-- Each step of p is met by a step of q into the same class. -/
def MetP (s : Lts) (n : Nat) (C : Nat → Int) (p q : Nat) : Prop := ∀ l t, t < n → stp s p l t → ∃ u, u < n ∧ stp s q l u ∧ C u = C t

theorem Big.met {C : Nat → Int} (h : Big s n C) {p q : Nat} (hp : p < n) (hq : q < n) (e : C p = C q) : MetP s n C p q := fun l t ht hs => by
  obtain ⟨u, hu, h1, h2⟩ := (h.bis p q hp hq e).1 l t ht hs
  exact ⟨u, hu, h1, h2.symm⟩

/-- Two states that meet one another's steps are together. -/
theorem Big.join {C : Nat → Int} (h : Big s n C) {p q : Nat} (hp : p < n) (hq : q < n) (h1 : MetP s n C p q) (h2 : MetP s n C q p) : C p = C q := by
  have key : ∀ p q, p < n → q < n → MetP s n C p q → ∀ a b, a < n → b < n → C a = C p → C b = C q → ∀ l t, t < n → stp s a l t → ∃ u, u < n ∧ stp s b l u ∧ C t = C u := by
    intro p q hp hq hm a b ha hb ea eb l t ht hs
    obtain ⟨t', ht', s1, e1⟩ := (h.bis a p ha hp ea).1 l t ht hs
    obtain ⟨u', hu', s2, e2⟩ := hm l t' ht' s1
    obtain ⟨u, hu, s3, e3⟩ := (h.bis q b hq hb eb.symm).1 l u' hu' s2
    exact ⟨u, hu, s3, by rw [e1, ← e2, e3]⟩
  refine h.all (fun a b => C a = C b ∨ (C a = C p ∧ C b = C q) ∨ (C a = C q ∧ C b = C p)) (fun a b ha hb hab => ?_) p q hp hq (.inr (.inl ⟨rfl, rfl⟩))
  rcases hab with e | ⟨e1, e2⟩ | ⟨e1, e2⟩
  · obtain ⟨c1, c2⟩ := h.bis a b ha hb e
    refine ⟨fun l t ht hs => ?_, fun l u hu hs => ?_⟩
    · obtain ⟨u, hu, s1, e1⟩ := c1 l t ht hs
      exact ⟨u, hu, s1, .inl e1⟩
    · obtain ⟨t, ht, s1, e1⟩ := c2 l u hu hs
      exact ⟨t, ht, s1, .inl e1⟩
  · refine ⟨fun l t ht hs => ?_, fun l u hu hs => ?_⟩
    · obtain ⟨u, hu, s1, e3⟩ := key p q hp hq h1 a b ha hb e1 e2 l t ht hs
      exact ⟨u, hu, s1, .inl e3⟩
    · obtain ⟨t, ht, s1, e3⟩ := key q p hq hp h2 b a hb ha e2 e1 l u hu hs
      exact ⟨t, ht, s1, .inl e3.symm⟩
  · refine ⟨fun l t ht hs => ?_, fun l u hu hs => ?_⟩
    · obtain ⟨u, hu, s1, e3⟩ := key q p hq hp h2 a b ha hb e1 e2 l t ht hs
      exact ⟨u, hu, s1, .inl e3⟩
    · obtain ⟨t, ht, s1, e3⟩ := key p q hp hq h1 b a hb ha e2 e1 l u hu hs
      exact ⟨t, ht, s1, .inl e3.symm⟩

/-- States with other numbers: the classes are the same, in that order. -/
theorem Big.iso {t : Lts} {C D : Nat → Int} {f g : Nat → Nat} (h : Big s n C) (h' : Big t n D) (hf : ∀ p, p < n → f p < n ∧ g (f p) = p) (hg : ∀ p, p < n → g p < n ∧ f (g p) = p)
    (he : ∀ p l u, p < n → u < n → (stp s p l u ↔ stp t (f p) l (f u))) {p q : Nat} (hp : p < n) (hq : q < n) : C p = C q ↔ D (f p) = D (f q) := by
  have he' : ∀ p l u, p < n → u < n → (stp t p l u ↔ stp s (g p) l (g u)) := fun p l u hp hu => by
    rw [he _ l _ (hg p hp).1 (hg u hu).1, (hg p hp).2, (hg u hu).2]
  constructor
  · intro e
    refine h'.all (fun a b => C (g a) = C (g b)) (fun a b ha hb hab => ?_) (f p) (f q) (hf p hp).1 (hf q hq).1 (by rw [(hf p hp).2, (hf q hq).2]; exact e)
    obtain ⟨c1, c2⟩ := h.bis (g a) (g b) (hg a ha).1 (hg b hb).1 hab
    refine ⟨fun l x hx hs => ?_, fun l x hx hs => ?_⟩
    · obtain ⟨u, hu, s1, e1⟩ := c1 l (g x) (hg x hx).1 ((he' a l x ha hx).1 hs)
      exact ⟨f u, (hf u hu).1, (he' b l _ hb (hf u hu).1).2 (by rw [(hf u hu).2]; exact s1), (by show C _ = C _; rw [(hf u hu).2]; exact e1)⟩
    · obtain ⟨u, hu, s1, e1⟩ := c2 l (g x) (hg x hx).1 ((he' b l x hb hx).1 hs)
      exact ⟨f u, (hf u hu).1, (he' a l _ ha (hf u hu).1).2 (by rw [(hf u hu).2]; exact s1), (by show C _ = C _; rw [(hf u hu).2]; exact e1)⟩
  · intro e
    refine h.all (fun a b => D (f a) = D (f b)) (fun a b ha hb hab => ?_) p q hp hq e
    obtain ⟨c1, c2⟩ := h'.bis (f a) (f b) (hf a ha).1 (hf b hb).1 hab
    refine ⟨fun l x hx hs => ?_, fun l x hx hs => ?_⟩
    · obtain ⟨u, hu, s1, e1⟩ := c1 l (f x) (hf x hx).1 ((he a l x ha hx).1 hs)
      exact ⟨g u, (hg u hu).1, (he b l _ hb (hg u hu).1).2 (by rw [(hg u hu).2]; exact s1), (by show D _ = D _; rw [(hg u hu).2]; exact e1)⟩
    · obtain ⟨u, hu, s1, e1⟩ := c2 l (f x) (hf x hx).1 ((he b l x hb hx).1 hs)
      exact ⟨g u, (hg u hu).1, (he a l _ ha (hg u hu).1).2 (by rw [(hg u hu).2]; exact s1), (by show D _ = D _; rw [(hg u hu).2]; exact e1)⟩

/-- Which block may be taken of which heap: not all of it, and at most half. -/
def smallB (b h : Int) : Bool := !(decide (b = 0)) && !(decide (b = h)) && decide (b ≤ h - b)

/-- Runs that may be played: the takings so far, the blocks, the heaps. -/
inductive Played (s : Lts) (n : Nat) (T : List (List Int)) : Nat → (Nat → Nat) → (Nat → Nat) → Nat → Prop where
  | first {inn inn' hp : Nat → Nat} (hn : 0 < n) (hT : T[0]? = some ((List.range n).map Int.ofNat)) (h0 : ∀ p q, p < n → q < n → inn p = inn q) (h : SplitBy s n (fun _ => True) inn inn') (he : ∀ q, q < n → hp q = 0) : Played s n T 1 inn' hp 1
  | next {k : Nat} {inn hp inn1 inn2 hp2 : Nat → Nat} {H p : Nat} (h : Played s n T k inn hp H) (hpn : p < n) (hT : T[k]? = some ((memN n inn (inn p)).map Int.ofNat)) (hs : smallB (memN n inn (inn p)).length (memN n hp (hp p)).length = true)
      (h1 : SplitBy s n (fun t => inn t = inn p) inn inn1) (h2 : SplitBy s n (fun t => hp t = hp p ∧ inn t ≠ inn p) inn1 inn2) (he : ∀ q, q < n → hp2 q = if inn q = inn p then H else hp q) : Played s n T (k + 1) inn2 hp2 (H + 1)

/-- May the next one be taken? -/
def MayB (n : Nat) (inn hp : Nat → Nat) (l : List Int) : Prop := ∃ p, p < n ∧ l = (memN n inn (inn p)).map Int.ofNat ∧ smallB (memN n inn (inn p)).length (memN n hp (hp p)).length = true

/-- Why a run is not taken. -/
def PlayBad (s : Lts) (n : Nat) (T : List (List Int)) : Prop :=
  n = 0 ∨ T[0]? ≠ some ((List.range n).map Int.ofNat) ∨ (∃ (k : Nat) (inn hp : Nat → Nat) (H : Nat) (L : List Int), Played s n T k inn hp H ∧ T[k]? = some L ∧ ¬ MayB n inn hp L) ∨
  ∃ (inn hp : Nat → Nat) (H p q : Nat), Played s n T T.length inn hp H ∧ p < n ∧ q < n ∧ hp p = hp q ∧ inn p ≠ inn q
end
end Pl
end Go.Proofs.YtmlmjhmdjieigaaGreatDoor

namespace Go.Proofs.YtmlmjhmdjieigaaGreatDoor
namespace Pl

theorem nodup_sub : ∀ (L M : List Nat), L.Nodup → (∀ x ∈ L, x ∈ M) → L.length ≤ M.length
  | [], _, _, _ => by simp
  | x :: L, M, hn, hs => by
    have hx := List.nodup_cons.1 hn
    have hm := hs x List.mem_cons_self
    have ih := nodup_sub L (M.erase x) hx.2 (fun y hy => (List.mem_erase_of_ne (fun e : y = x => hx.1 (e ▸ hy))).2 (hs y (List.mem_cons_of_mem _ hy)))
    rw [List.length_erase_of_mem hm] at ih
    have := List.length_pos_of_mem hm
    simp; omega

section
variable {t : Lts}

theorem taus_nodup (hr : t.Right) (hs : Srt ltE t.es) (k : Nat) : (taus t k).Nodup := by
  have h0 : ∀ y ∈ t.outs (k : Int), 0 ≤ y.1 ∧ 0 ≤ y.2 := fun y hy => by
    have := offB_false.1 (hr.edges _ (mem_outs.1 hy)); simp only at this; omega
  have h1 := outs_srt hs (k : Int)
  unfold taus List.Nodup
  rw [List.pairwise_map]
  have h2 : ((t.outs (k : Int)).takeWhile (fun y => y.1 == 0)).Pairwise (fun a b => ltS a b = true) := List.Pairwise.sublist (List.takeWhile_sublist _) h1
  refine List.Pairwise.imp_of_mem ?_ h2
  intro a b ha hb hab e
  have ma := (takeWhile_mem h1 (fun y hy => (h0 y hy).1) a).1 ha
  have mb := (takeWhile_mem h1 (fun y hy => (h0 y hy).1) b).1 hb
  rw [ltS_iff] at hab
  have qa := h0 a ma.1; have qb := h0 b mb.1
  omega

/-- How many of a state's silent steps lead outside D. -/
def Wt (t : Lts) (D : List Nat) (k : Nat) : Nat := ((taus t k).filter (fun y => !decide (y ∈ D))).length
theorem Wt_nil (k : Nat) : Wt t [] k = (taus t k).length := by
  unfold Wt
  rw [List.filter_eq_self.2]
  intro y _; simp
theorem Wt_zero (hr : t.Right) (hs : Srt ltE t.es) {D : List Nat} {k : Nat} : Wt t D k = 0 ↔ ∀ y, tau t k y → y ∈ D := by
  unfold Wt
  rw [List.length_eq_zero_iff, List.filter_eq_nil_iff]
  constructor
  · intro h y hy
    have := h y ((mem_taus hr hs).2 hy)
    simpa using this
  · intro h y hy
    have := h y ((mem_taus hr hs).1 hy)
    simp [this]

theorem filt_split {D : List Nat} {k : Nat} (hk : k ∉ D) : ∀ (l : List Nat), l.Nodup →
    (l.filter (fun y => !decide (y ∈ D))).length = (l.filter (fun y => !decide (y ∈ D ++ [k]))).length + (if k ∈ l then 1 else 0)
  | [], _ => by simp
  | x :: l, hn => by
    have hx := List.nodup_cons.1 hn
    have ih := filt_split hk l hx.2
    by_cases e : x = k
    · subst e
      have h1 : (!decide (x ∈ D)) = true := by simp [hk]
      have h2 : (!decide (x ∈ D ++ [x])) = false := by simp
      rw [List.filter_cons, List.filter_cons, h1, h2]
      rw [if_neg hx.1] at ih
      simp [ih]
    · have h1 : (k ∈ x :: l) ↔ k ∈ l := by
        rw [List.mem_cons]
        exact ⟨fun h => h.resolve_left (fun e2 => e e2.symm), .inr⟩
      have h2 : (x ∈ D ++ [k]) ↔ x ∈ D := by
        rw [List.mem_append, List.mem_singleton]
        exact ⟨fun h => h.resolve_right e, .inl⟩
      rw [List.filter_cons, List.filter_cons]
      simp only [h1, h2]
      by_cases h3 : x ∈ D
      · simp only [h3, decide_true, Bool.not_true, Bool.false_eq_true, if_false]; exact ih
      · simp only [h3, decide_false, Bool.not_false, if_true, List.length_cons]; omega

theorem Wt_add (hr : t.Right) (hs : Srt ltE t.es) {D : List Nat} {k : Nat} (hk : k ∉ D) (j : Nat) [Decidable (tau t j k)] : Wt t D j = Wt t (D ++ [k]) j + (if tau t j k then 1 else 0) := by
  have h := filt_split hk (taus t j) (taus_nodup hr hs j)
  unfold Wt
  rw [h]
  congr 1
  by_cases h2 : tau t j k
  · rw [if_pos ((mem_taus hr hs).2 h2), if_pos h2]
  · rw [if_neg (fun h3 => h2 ((mem_taus hr hs).1 h3)), if_neg h2]

/-- The next in order. -/
structure IsNext (t : Lts) (m : Nat) (D : List Nat) (k : Nat) : Prop where
  lt : k < m
  new : k ∉ D
  all : Wt t D k = 0
  first : ∀ j, j < k → j ∈ D ∨ Wt t D j ≠ 0
inductive OrdL (t : Lts) (m : Nat) : List Nat → Prop
  | nil : OrdL t m []
  | step {D : List Nat} {k : Nat} : OrdL t m D → IsNext t m D k → OrdL t m (D ++ [k])

theorem IsNext.unique {m : Nat} {D : List Nat} {k k' : Nat} (h : IsNext t m D k) (h' : IsNext t m D k') : k = k' := by
  rcases Nat.lt_trichotomy k k' with h1 | h1 | h1
  · rcases h'.first k h1 with h2 | h2
    · exact absurd h2 h.new
    · exact absurd h.all h2
  · exact h1
  · rcases h.first k' h1 with h2 | h2
    · exact absurd h2 h'.new
    · exact absurd h'.all h2
theorem OrdL.unique {m : Nat} {D D' : List Nat} (h : OrdL t m D) (h' : OrdL t m D') (hl : D.length = D'.length) : D = D' := by
  induction h generalizing D' with
  | nil => cases h' with
    | nil => rfl
    | step _ _ => simp at hl
  | step h1 h2 ih => cases h' with
    | nil => simp at hl
    | step h3 h4 =>
      have := ih h3 (by simpa using hl)
      subst this
      rw [h2.unique h4]
theorem OrdL.nodup {m : Nat} {D : List Nat} (h : OrdL t m D) : D.Nodup := by
  induction h with
  | nil => simp
  | step _ h2 ih =>
    rw [List.nodup_append]
    exact ⟨ih, by simp, fun a ha b hb e => by simp at hb; subst hb; subst e; exact h2.new ha⟩
theorem OrdL.rng {m : Nat} {D : List Nat} (h : OrdL t m D) : ∀ x ∈ D, x < m := by
  induction h with
  | nil => simp
  | step _ h2 ih =>
    intro x hx
    rcases List.mem_append.1 hx with h3 | h3
    · exact ih x h3
    · simp at h3; subst h3; exact h2.lt
/-- What silent steps lead to stands ahead. -/
theorem OrdL.ahead (hr : t.Right) (hs : Srt ltE t.es) {m : Nat} {D : List Nat} (h : OrdL t m D) : ∀ (i k y : Nat), D[i]? = some k → tau t k y → y ∈ D.take i := by
  induction h with
  | nil => simp
  | @step D k' _ h2 ih =>
    intro i k y hi hy
    by_cases hlt : i < D.length
    · rw [List.getElem?_append_left hlt] at hi
      rw [List.take_append_of_le_length (by omega)]
      exact ih i k y hi hy
    · have hl := (List.getElem?_eq_some_iff.1 hi).1
      simp at hl
      obtain rfl : i = D.length := by omega
      simp at hi
      subst hi
      rw [List.take_append_of_le_length (by omega), List.take_length]
      exact (Wt_zero hr hs).1 h2.all y hy
/-- .. so all silent steps of what stands lead to what stands. -/
theorem OrdL.closed (hr : t.Right) (hs : Srt ltE t.es) {m : Nat} {D : List Nat} (h : OrdL t m D) {k y : Nat} (hk : k ∈ D) (hy : tau t k y) : y ∈ D := by
  obtain ⟨i, hi⟩ := List.getElem?_of_mem hk
  exact List.mem_of_mem_take (h.ahead hr hs i k y hi hy)

theorem min_ex (P : Nat → Prop) : (∃ k, P k) → ∃ k, P k ∧ ∀ j, j < k → ¬ P j := by
  rintro ⟨k, hk⟩
  induction k using Nat.strongRecOn with
  | _ k ih =>
    by_cases h : ∃ j, j < k ∧ P j
    · obtain ⟨j, hj, hp⟩ := h
      exact ih j hj hp
    · exact ⟨k, hk, fun j hj hp => h ⟨j, hj, hp⟩⟩

/-- As long as one is left there is a next one, where silent steps lead strictly down. -/
theorem next_ex (hr : t.Right) (hs : Srt ltE t.es) {m : Nat} (hm : t.st = (m : Int)) {F : Nat → Int} (hF : ∀ x y, tau t x y → F y < F x) {D : List Nat} {x : Nat} (hx : x < m) (hxD : x ∉ D) : ∃ k, IsNext t m D k := by
  -- one of least rank among those that are left
  have h1 : ∃ k, k < m ∧ k ∉ D ∧ ∀ y, tau t k y → y ∈ D := by
    have key : ∀ (B : Nat) (x : Nat), x < m → x ∉ D → (F x - F x).toNat ≤ B → True := fun _ _ _ _ _ => trivial
    clear key
    -- by strong induction over how many of those left are below
    have : ∀ (c : Nat) (x : Nat), x < m → x ∉ D → ((List.range m).filter (fun z => decide (F z < F x))).length ≤ c → ∃ k, k < m ∧ k ∉ D ∧ ∀ y, tau t k y → y ∈ D := by
      intro c
      induction c with
      | zero =>
        intro x hx hxD hc
        refine ⟨x, hx, hxD, fun y hy => ?_⟩
        have hyF := hF x y hy
        have hym := (tau_lt hr hm hy).2
        have : y ∈ (List.range m).filter (fun z => decide (F z < F x)) := by simp [hym, hyF]
        have := List.length_pos_of_mem this
        omega
      | succ c ih =>
        intro x hx hxD hc
        by_cases h : ∀ y, tau t x y → y ∈ D
        · exact ⟨x, hx, hxD, h⟩
        · obtain ⟨y, hy⟩ := Classical.not_forall.1 h
          obtain ⟨hy1, hy2⟩ := Classical.not_imp.1 hy
          have hyF := hF x y hy1
          have hym := (tau_lt hr hm hy1).2
          refine ih y hym hy2 ?_
          have hsub : ((List.range m).filter (fun z => decide (F z < F y))).length + 1 ≤ ((List.range m).filter (fun z => decide (F z < F x))).length := by
            have hnd : (y :: (List.range m).filter (fun z => decide (F z < F y))).Nodup := by
              rw [List.nodup_cons]
              exact ⟨by simp, List.Nodup.sublist List.filter_sublist List.nodup_range⟩
            have := nodup_sub _ ((List.range m).filter (fun z => decide (F z < F x))) hnd (fun z hz => by
              rcases List.mem_cons.1 hz with rfl | hz
              · simp [hym, hyF]
              · simp at hz ⊢; omega)
            simpa using this
          omega
    exact this _ x hx hxD (Nat.le_refl _)
  obtain ⟨k, ⟨h2, h3, h4⟩, h5⟩ := min_ex (fun k => k < m ∧ k ∉ D ∧ Wt t D k = 0) (by
    obtain ⟨k, h2, h3, h4⟩ := h1
    exact ⟨k, h2, h3, (Wt_zero hr hs).2 h4⟩)
  refine ⟨k, h2, h3, h4, fun j hj => ?_⟩
  by_cases hjD : j ∈ D
  · exact .inl hjD
  · exact .inr (fun e => h5 j hj ⟨by omega, hjD, e⟩)

end
end Pl
end Go.Proofs.YtmlmjhmdjieigaaGreatDoor
