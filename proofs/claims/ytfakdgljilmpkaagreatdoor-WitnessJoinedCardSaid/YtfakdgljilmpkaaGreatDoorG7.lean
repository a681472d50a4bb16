/-
  Plain: the one form, list by list: its beginnings, how it is told from others.
  Plain: the collapsed system; it has no cycle of silent steps and is its own collapse.
-/
import Derived.Test.YtfakdgljilmpkaaGreatDoorG2
import Derived.Test.YtfakdgljilmpkaaGreatDoorG3
namespace Go.Proofs.YtfakdgljilmpkaaGreatDoor
namespace Pl

theorem canon_snoc (l : List Int) (x : Int) : canon (l ++ [x]) = canon l ++ [((dist (l ++ [x])).idxOf x : Int)] := by
  unfold canon
  rw [List.map_append, List.map_cons, List.map_nil]
  congr 1
  apply List.map_congr_left
  intro y hy
  rw [idx_append l [x] hy]

theorem canon_take (xs : List Int) (i : Nat) : (canon xs).take i = canon (xs.take i) := by
  unfold canon
  rw [← List.map_take]
  apply List.map_congr_left
  intro y hy
  conv => lhs; rw [← List.take_append_drop i xs]
  rw [idx_append _ _ hy]

theorem idx_range : ∀ (n a : Nat) (x : Nat), x < n → ((List.range' a n).map Int.ofNat).idxOf ((a + x : Nat) : Int) = x
  | 0, _, _, h => by omega
  | n + 1, a, 0, _ => by simp [List.range'_succ]
  | n + 1, a, x + 1, h => by
    rw [List.range'_succ, List.map_cons, List.idxOf_cons]
    have hb : (Int.ofNat a == ((a + (x + 1) : Nat) : Int)) = false := by simp; omega
    rw [hb]
    have := idx_range n (a + 1) x (by omega)
    rw [show a + (x + 1) = a + 1 + x by omega]
    simp only [cond_false, this]

theorem map_idx : ∀ (l : List Int), l.Nodup → l.map (fun x => (l.idxOf x : Int)) = (List.range l.length).map Int.ofNat := by
  intro l hn
  apply List.ext_getElem?
  intro i
  rw [List.getElem?_map, List.getElem?_map]
  by_cases h : i < l.length
  · rw [List.getElem?_eq_getElem h, List.getElem?_range h]
    simp only [Option.map_some]
    congr 1
    have := List.Nodup.idxOf_getElem hn i h
    rw [this]; rfl
  · rw [List.getElem?_eq_none (by omega), List.getElem?_eq_none (by simp; omega)]; rfl

theorem dist_canon (l : List Int) : dist (canon l) = (List.range (dist l).length).map Int.ofNat := by
  have h := dist_map (f := fun x => ((dist l).idxOf x : Int)) l (fun x hx y hy h => idx_inj ((mem_dist l).2 hx) ((mem_dist l).2 hy) (Int.ofNat.inj h))
  unfold canon
  exact h.trans (map_idx _ (nodup_dist l))

/-- The number of classes ahead of i. -/
def nUp (xs : List Int) (i : Nat) : Nat := (dist (xs.take i)).length

theorem nUp_le (xs : List Int) (i : Nat) : nUp xs i ≤ i := by
  unfold nUp; have := dist_len (xs.take i); simp at this; omega

theorem nUp_snoc {xs : List Int} {i : Nat} {x : Int} (h : xs[i]? = some x) : xs.take (i + 1) = xs.take i ++ [x] := by
  obtain ⟨hl, rfl⟩ := List.getElem?_eq_some_iff.1 h
  exact List.take_succ_eq_append_getElem hl

/-- The one form's own steps: an old class. -/
theorem form_old {xs : List Int} {i : Nat} {x : Int} (h : xs[i]? = some x) (hc : canon (xs.take i) = xs.take i) (h0 : 0 ≤ x) (h1 : x < nUp xs i) :
    canon (xs.take (i + 1)) = xs.take (i + 1) ∧ nUp xs (i + 1) = nUp xs i := by
  have hd := dist_canon (xs.take i)
  rw [hc] at hd
  obtain ⟨k, rfl⟩ := Int.eq_ofNat_of_zero_le h0
  unfold nUp at h1
  have hk : k < (dist (xs.take i)).length := by omega
  have hm : (k : Int) ∈ dist (xs.take i) := by
    rw [hd, List.mem_map]; exact ⟨k, by simpa using hk, rfl⟩
  have hdd : dist (xs.take (i + 1)) = dist (xs.take i) := by rw [nUp_snoc h, dist_snoc]; unfold addN; rw [if_pos hm]
  refine ⟨?_, by unfold nUp; rw [hdd]⟩
  have hix : (dist (xs.take (i + 1))).idxOf (k : Int) = k := by
    rw [hdd, hd, List.range_eq_range']
    have := idx_range (dist (xs.take i)).length 0 k hk
    simpa using this
  rw [nUp_snoc h] at hix ⊢
  rw [canon_snoc, hix, hc]

/-- .. a new one. -/
theorem form_new {xs : List Int} {i : Nat} {x : Int} (h : xs[i]? = some x) (hc : canon (xs.take i) = xs.take i) (h1 : x = nUp xs i) :
    canon (xs.take (i + 1)) = xs.take (i + 1) ∧ nUp xs (i + 1) = nUp xs i + 1 := by
  have hd := dist_canon (xs.take i)
  rw [hc] at hd
  unfold nUp at h1
  have hm : x ∉ dist (xs.take i) := by
    rw [hd, List.mem_map]; rintro ⟨k, hk, rfl⟩
    rw [List.mem_range] at hk
    have : (k : Int) = ((dist (xs.take i)).length : Int) := h1
    omega
  have hdd : dist (xs.take (i + 1)) = dist (xs.take i) ++ [x] := by rw [nUp_snoc h, dist_snoc]; unfold addN; rw [if_neg hm]
  refine ⟨?_, by unfold nUp; rw [hdd]; simp⟩
  have hix : (dist (xs.take (i + 1))).idxOf x = (dist (xs.take i)).length := by rw [hdd, List.idxOf_append]; simp [hm]
  rw [nUp_snoc h] at hix ⊢
  rw [canon_snoc, hix, hc, ← h1]

/-- .. none at all. -/
theorem form_no {xs : List Int} {i : Nat} {x : Int} (h : xs[i]? = some x) (h1 : x < 0 ∨ (nUp xs i : Int) < x) : canon xs ≠ xs := by
  intro e
  have h2 := canon_get xs i
  rw [e, h] at h2
  simp only [Option.map_some, Option.some.injEq] at h2
  have h3 := idx_append (xs.take (i + 1)) (xs.drop (i + 1)) (y := x) (by rw [nUp_snoc h]; simp)
  rw [List.take_append_drop] at h3
  rw [h3] at h2
  have h4 : (dist (xs.take (i + 1))).idxOf x ≤ nUp xs i := by
    rw [nUp_snoc h, dist_snoc]
    unfold nUp
    by_cases hm : x ∈ dist (xs.take i)
    · rw [idx_addN hm]; exact List.idxOf_le_length
    · rw [idx_new hm]; exact Nat.le_refl _
  omega

/-- The greatest of the one form's numbers, and one more. -/
theorem nUp_canon {xs : List Int} {i : Nat} {x : Int} (h : xs[i]? = some x) :
    (if (nUp xs i : Int) ≤ ((dist xs).idxOf x : Int) then ((dist xs).idxOf x : Int) + 1 else (nUp xs i : Int)) = nUp xs (i + 1) := by
  have h3 := idx_append (xs.take (i + 1)) (xs.drop (i + 1)) (y := x) (by rw [nUp_snoc h]; simp)
  rw [List.take_append_drop] at h3
  rw [h3]
  unfold nUp
  rw [nUp_snoc h, dist_snoc]
  by_cases hm : x ∈ dist (xs.take i)
  · rw [idx_addN hm]
    have := List.idxOf_lt_length_of_mem hm
    unfold addN
    rw [if_pos hm, if_neg (by omega)]
  · rw [idx_new hm]
    unfold addN
    rw [if_neg hm, if_pos (by omega)]
    simp

end Pl
end Go.Proofs.YtfakdgljilmpkaaGreatDoor

namespace Go.Proofs.YtfakdgljilmpkaaGreatDoor
namespace Pl

/-- The class of a number. -/
def atL (c : List Int) (x : Int) : Int := c.getD x.toNat 0
def colE (c : List Int) (es : List E) : List E := (es.map (fun x => (atL c x.1, x.2.1, atL c x.2.2))).filter (fun y => !(decide (y.2.1 = 0) && decide (y.1 = y.2.2)))
/-- The collapsed system, by classes. -/
def col (s : Lts) (c : List Int) : Lts := ⟨((dist c).length : Int), s.lb, if s.st = 0 then 0 else atL c s.s0, nf ltE (colE c s.es)⟩

theorem mem_colE {c : List Int} {es : List E} {y : E} : y ∈ colE c es ↔ ∃ x ∈ es, y = (atL c x.1, x.2.1, atL c x.2.2) ∧ ¬ (y.2.1 = 0 ∧ y.1 = y.2.2) := by
  unfold colE
  rw [List.mem_filter, List.mem_map]
  constructor
  · rintro ⟨⟨x, hx, rfl⟩, h⟩
    refine ⟨x, hx, rfl, fun ⟨h1, h2⟩ => ?_⟩
    have h1' : x.2.1 = 0 := h1
    have h2' : atL c x.1 = atL c x.2.2 := h2
    simp [h1', h2'] at h
  · rintro ⟨x, hx, rfl, h⟩
    refine ⟨⟨x, hx, rfl⟩, ?_⟩
    by_cases h1 : x.2.1 = 0
    · have h2 : ¬ atL c x.1 = atL c x.2.2 := fun e => h ⟨h1, e⟩
      simp [h2]
    · simp [h1]
theorem colE_len (c : List Int) (es : List E) : (colE c es).length ≤ es.length := by
  unfold colE
  have := List.length_filter_le (fun y : E => !(decide (y.2.1 = 0) && decide (y.1 = y.2.2))) (es.map (fun x => (atL c x.1, x.2.1, atL c x.2.2)))
  rw [List.length_map] at this
  exact this
theorem col_srt (s : Lts) (c : List Int) : Srt ltE (col s c).es := srt_nf stoE _

theorem atL_fl {n : Nat} {f : Nat → Int} {x : Int} (h0 : 0 ≤ x) (h : x < (n : Int)) : atL (fl n f) x = f x.toNat := by
  unfold atL
  have : (fl n f)[x.toNat]? = some (f x.toNat) := fl_get f (by omega)
  rw [List.getD_eq_getElem?_getD, this]; rfl

section
variable {s : Lts} {n : Nat} {f : Nat → Int}

theorem dist_clf (n : Nat) (f : Nat → Int) : dist (fl n (clf n f)) = (List.range (dist (fl n f)).length).map Int.ofNat := by
  rw [← canon_fl, canon_dist]
theorem dist_clf_len (n : Nat) (f : Nat → Int) : (dist (fl n (clf n f))).length = (dist (fl n f)).length := by rw [dist_clf]; simp
theorem dist_pos {n : Nat} {f : Nat → Int} (h : 0 < n) : 0 < (dist (fl n f)).length := by
  have h1 : f 0 ∈ dist (fl n f) := (mem_dist _).2 (List.mem_of_getElem? (fl_get f h))
  exact List.length_pos_of_mem h1
theorem dist_le (n : Nat) (f : Nat → Int) : (dist (fl n f)).length ≤ n := by have := dist_len (fl n f); rw [fl_len] at this; exact this

/-- The collapsed system is one. -/
theorem col_right (hr : s.Right) (hn : s.st = (n : Int)) : (col s (fl n (clf n f))).Right := by
  have h0 := hr.st0
  have hd := dist_le n f
  have hdl := dist_clf_len n f
  have hat : ∀ x : Int, 0 ≤ x → x < (n : Int) → 0 ≤ atL (fl n (clf n f)) x ∧ atL (fl n (clf n f)) x < ((dist (fl n f)).length : Int) := by
    intro x h1 h2
    rw [atL_fl h1 h2]
    exact clf_rng (by omega)
  refine ⟨?_, fun y hy => ?_⟩
  · have h2 := colE_len (fl n (clf n f)) s.es
    have h3 := length_nf (lt := ltE) (colE (fl n (clf n f)) s.es)
    have h4 : 0 ≤ (col s (fl n (clf n f))).s0 ∧ ((col s (fl n (clf n f))).s0 = 0 ∨ (col s (fl n (clf n f))).s0 < ((dist (fl n f)).length : Int)) := by
      simp only [col]
      split
      · omega
      · rename_i hne
        have := hat s.s0 (by omega) (by omega)
        omega
    unfold HeadBad
    simp only [col] at *
    omega
  · obtain ⟨x, hx, rfl, _⟩ := mem_colE.1 ((mem_nf stoE y _).1 hy)
    have h1 := offB_false.1 (hr.edges x hx)
    have h2 := hat x.1 (by omega) (by omega)
    have h3 := hat x.2.2 (by omega) (by omega)
    rw [offB_false]
    simp only [col]
    omega

/-- A silent step of the collapsed system is one of the system, between two classes. -/
theorem tau_col (hr : s.Right) (hn : s.st = (n : Int)) {X Y : Nat} (h : tau (col s (fl n (clf n f))) X Y) : X ≠ Y ∧ ∃ x y, x < n ∧ y < n ∧ tau s x y ∧ clf n f x = (X : Int) ∧ clf n f y = (Y : Int) := by
  obtain ⟨e, he, heq, hne⟩ := mem_colE.1 ((mem_nf stoE _ _).1 h)
  have h1 := offB_false.1 (hr.edges e he)
  simp only [Prod.mk.injEq] at heq
  obtain ⟨q1, q2, q3⟩ := heq
  rw [atL_fl (by omega) (by omega)] at q1 q3
  refine ⟨fun e2 => hne ⟨rfl, by rw [e2]⟩, e.1.toNat, e.2.2.toNat, by omega, by omega, ?_, q1.symm, q3.symm⟩
  unfold tau
  rw [show ((e.1.toNat : Nat) : Int) = e.1 by omega, show ((e.2.2.toNat : Nat) : Int) = e.2.2 by omega, q2]
  exact he

/-- The number of a class's states. -/
noncomputable def rank (n : Nat) (f : Nat → Int) (X : Nat) : Int := (dist (fl n f)).getD X 0
theorem rank_of {n : Nat} {f : Nat → Int} {x X : Nat} (hx : x < n) (h : clf n f x = (X : Int)) : rank n f X = f x := by
  have hm : f x ∈ dist (fl n f) := (mem_dist _).2 (List.mem_of_getElem? (fl_get f hx))
  have h1 := List.idxOf_lt_length_of_mem hm
  have h2 : (dist (fl n f))[(dist (fl n f)).idxOf (f x)] = f x := List.getElem_idxOf h1
  unfold clf at h
  have hX : (dist (fl n f)).idxOf (f x) = X := by omega
  unfold rank
  subst hX
  rw [List.getD_eq_getElem?_getD, List.getElem?_eq_getElem h1, Option.getD_some, h2]

theorem rank_down (hr : s.Right) (hn : s.st = (n : Int)) (hc : Cyc s n f) {X Y : Nat} (h : tau (col s (fl n (clf n f))) X Y) : rank n f Y < rank n f X := by
  obtain ⟨hne, x, y, hx, hy, hxy, h1, h2⟩ := tau_col hr hn h
  rw [rank_of hx h1, rank_of hy h2]
  have h3 := hc.down x y hxy
  have h4 : f x ≠ f y := fun e => hne (by have := (clf_eq hx hy).2 e; omega)
  omega

theorem rank_TR (hr : s.Right) (hn : s.st = (n : Int)) (hc : Cyc s n f) {X Y : Nat} (h : TR (col s (fl n (clf n f))) X Y) : X = Y ∨ rank n f Y < rank n f X := by
  induction h with
  | refl => exact .inl rfl
  | tail _ ht ih =>
    have := rank_down hr hn hc ht
    rcases ih with rfl | h
    · exact .inr this
    · exact .inr (by omega)

/-- No cycle of silent steps is left. -/
theorem col_apart (hr : s.Right) (hn : s.st = (n : Int)) (hc : Cyc s n f) {m : Nat} {g : Nat → Int} (hg : Cyc (col s (fl n (clf n f))) m g) : canon (fl m g) = (List.range m).map Int.ofNat := by
  apply canon_inj
  intro X Y hX hY h
  obtain ⟨h1, h2⟩ := (hg.same X Y hX hY).1 h
  rcases rank_TR hr hn hc h1 with h3 | h3
  · exact h3
  · rcases rank_TR hr hn hc h2 with h4 | h4
    · exact h4.symm
    · omega

/-- It is its own collapse. -/
theorem col_col (hr : s.Right) (hn : s.st = (n : Int)) : col (col s (fl n (clf n f))) ((List.range (dist (fl n f)).length).map Int.ofNat) = col s (fl n (clf n f)) := by
  obtain ⟨m, hm⟩ : ∃ m, m = (dist (fl n f)).length := ⟨_, rfl⟩
  obtain ⟨t, ht⟩ : ∃ t, t = col s (fl n (clf n f)) := ⟨_, rfl⟩
  have htr : t.Right := by rw [ht]; exact col_right hr hn
  have hst : t.st = (m : Int) := by rw [ht, hm]; show ((dist (fl n (clf n f))).length : Int) = _; rw [dist_clf_len]
  have hes : Srt ltE t.es := by rw [ht]; exact col_srt s _
  have hne : ∀ y ∈ t.es, ¬ (y.2.1 = 0 ∧ y.1 = y.2.2) := by
    intro y hy
    rw [ht] at hy
    obtain ⟨x, _, _, h⟩ := mem_colE.1 ((mem_nf stoE _ _).1 hy)
    exact h
  have hs0 : t.st = 0 → t.s0 = 0 := fun h => by
    have := htr.st0; omega
  have hat : ∀ x : Int, 0 ≤ x → x < (m : Int) → atL ((List.range m).map Int.ofNat) x = x := by
    intro x h1 h2
    unfold atL
    have : ((List.range m).map Int.ofNat)[x.toNat]? = some x := by
      have h3 : x.toNat < m := by omega
      simp [h3]; omega
    rw [List.getD_eq_getElem?_getD, this]; rfl
  rw [← hm, ← ht]
  have h1 : ((dist ((List.range m).map Int.ofNat)).length : Int) = t.st := by rw [dist_ofNat, hst]; simp
  have h2 : (if t.st = 0 then 0 else atL ((List.range m).map Int.ofNat) t.s0) = t.s0 := by
    split
    · rename_i h; exact (hs0 h).symm
    · have := htr.st0; exact hat _ (by omega) (by omega)
  have h3 : nf ltE (colE ((List.range m).map Int.ofNat) t.es) = t.es := by
    symm
    apply eq_nf stoE hes
    intro y
    rw [mem_colE]
    constructor
    · intro hy
      have := offB_false.1 (htr.edges y hy)
      refine ⟨y, hy, ?_, hne y hy⟩
      rw [hat _ (by omega) (by omega), hat _ (by omega) (by omega)]
    · rintro ⟨x, hx, rfl, _⟩
      have := offB_false.1 (htr.edges x hx)
      rw [hat _ (by omega) (by omega), hat _ (by omega) (by omega)]
      exact hx
  show Lts.mk _ _ _ _ = t
  rw [h1, h2, h3]

end
end Pl
end Go.Proofs.YtfakdgljilmpkaaGreatDoor
