/-
  Plain: the one form, list by list: its beginnings, how it is told from others.
  Plain: the collapsed system; it has no cycle of silent steps and is its own collapse.
  Plain: the silent steps alone, from a state on.
  Plain: a run's state: blocks, heaps, sizes, gauges together.
-/
import Derived.Test.YtfakdgljilmpkaaGreatDoorG2
import Derived.Test.YtfakdgljilmpkaaGreatDoorG3
import Derived.Test.YtfakdgljilmpkaaGreatDoorPl8
import Derived.Test.YtfakdgljilmpkaaGreatDoorPlS
namespace Go.Proofs.YtfakdgljilmpkaaGreatDoor
namespace Pl

theorem canon_snoc (l : List Int) (x : Int) : canon (l ++ [x]) = canon l ++ [((dist (l ++ [x])).idxOf x : Int)] := by
  unfold canon
  rw [List.map_append, List.map_cons, List.map_nil]
  congr 1
  apply List.map_congr_left
  intro y hy
  rw [idx_append l [x] hy]

theorem canon_take (xs : List Int) (i : Nat) : (canon xs).take i = canon (xs.take i) := by
  unfold canon
  rw [← List.map_take]
  apply List.map_congr_left
  intro y hy
  conv => lhs; rw [← List.take_append_drop i xs]
  rw [idx_append _ _ hy]

theorem idx_range : ∀ (n a : Nat) (x : Nat), x < n → ((List.range' a n).map Int.ofNat).idxOf ((a + x : Nat) : Int) = x
  | 0, _, _, h => by omega
  | n + 1, a, 0, _ => by simp [List.range'_succ]
  | n + 1, a, x + 1, h => by
    rw [List.range'_succ, List.map_cons, List.idxOf_cons]
    have hb : (Int.ofNat a == ((a + (x + 1) : Nat) : Int)) = false := by simp; omega
    rw [hb]
    have := idx_range n (a + 1) x (by omega)
    rw [show a + (x + 1) = a + 1 + x by omega]
    simp only [cond_false, this]

theorem map_idx : ∀ (l : List Int), l.Nodup → l.map (fun x => (l.idxOf x : Int)) = (List.range l.length).map Int.ofNat := by
  intro l hn
  apply List.ext_getElem?
  intro i
  rw [List.getElem?_map, List.getElem?_map]
  by_cases h : i < l.length
  · rw [List.getElem?_eq_getElem h, List.getElem?_range h]
    simp only [Option.map_some]
    congr 1
    have := List.Nodup.idxOf_getElem hn i h
    rw [this]; rfl
  · rw [List.getElem?_eq_none (by omega), List.getElem?_eq_none (by simp; omega)]; rfl

theorem dist_canon (l : List Int) : dist (canon l) = (List.range (dist l).length).map Int.ofNat := by
  have h := dist_map (f := fun x => ((dist l).idxOf x : Int)) l (fun x hx y hy h => idx_inj ((mem_dist l).2 hx) ((mem_dist l).2 hy) (Int.ofNat.inj h))
  unfold canon
  exact h.trans (map_idx _ (nodup_dist l))

/-- The number of classes ahead of i. -/
def nUp (xs : List Int) (i : Nat) : Nat := (dist (xs.take i)).length

theorem nUp_le (xs : List Int) (i : Nat) : nUp xs i ≤ i := by
  unfold nUp; have := dist_len (xs.take i); simp at this; omega

theorem nUp_snoc {xs : List Int} {i : Nat} {x : Int} (h : xs[i]? = some x) : xs.take (i + 1) = xs.take i ++ [x] := by
  obtain ⟨hl, rfl⟩ := List.getElem?_eq_some_iff.1 h
  exact List.take_succ_eq_append_getElem hl

/-- The one form's own steps: an old class. -/
theorem form_old {xs : List Int} {i : Nat} {x : Int} (h : xs[i]? = some x) (hc : canon (xs.take i) = xs.take i) (h0 : 0 ≤ x) (h1 : x < nUp xs i) :
    canon (xs.take (i + 1)) = xs.take (i + 1) ∧ nUp xs (i + 1) = nUp xs i := by
  have hd := dist_canon (xs.take i)
  rw [hc] at hd
  obtain ⟨k, rfl⟩ := Int.eq_ofNat_of_zero_le h0
  unfold nUp at h1
  have hk : k < (dist (xs.take i)).length := by omega
  have hm : (k : Int) ∈ dist (xs.take i) := by
    rw [hd, List.mem_map]; exact ⟨k, by simpa using hk, rfl⟩
  have hdd : dist (xs.take (i + 1)) = dist (xs.take i) := by rw [nUp_snoc h, dist_snoc]; unfold addN; rw [if_pos hm]
  refine ⟨?_, by unfold nUp; rw [hdd]⟩
  have hix : (dist (xs.take (i + 1))).idxOf (k : Int) = k := by
    rw [hdd, hd, List.range_eq_range']
    have := idx_range (dist (xs.take i)).length 0 k hk
    simpa using this
  rw [nUp_snoc h] at hix ⊢
  rw [canon_snoc, hix, hc]

/-- .. a new one. -/
theorem form_new {xs : List Int} {i : Nat} {x : Int} (h : xs[i]? = some x) (hc : canon (xs.take i) = xs.take i) (h1 : x = nUp xs i) :
    canon (xs.take (i + 1)) = xs.take (i + 1) ∧ nUp xs (i + 1) = nUp xs i + 1 := by
  have hd := dist_canon (xs.take i)
  rw [hc] at hd
  unfold nUp at h1
  have hm : x ∉ dist (xs.take i) := by
    rw [hd, List.mem_map]; rintro ⟨k, hk, rfl⟩
    rw [List.mem_range] at hk
    have : (k : Int) = ((dist (xs.take i)).length : Int) := h1
    omega
  have hdd : dist (xs.take (i + 1)) = dist (xs.take i) ++ [x] := by rw [nUp_snoc h, dist_snoc]; unfold addN; rw [if_neg hm]
  refine ⟨?_, by unfold nUp; rw [hdd]; simp⟩
  have hix : (dist (xs.take (i + 1))).idxOf x = (dist (xs.take i)).length := by rw [hdd, List.idxOf_append]; simp [hm]
  rw [nUp_snoc h] at hix ⊢
  rw [canon_snoc, hix, hc, ← h1]

/-- .. none at all. -/
theorem form_no {xs : List Int} {i : Nat} {x : Int} (h : xs[i]? = some x) (h1 : x < 0 ∨ (nUp xs i : Int) < x) : canon xs ≠ xs := by
  intro e
  have h2 := canon_get xs i
  rw [e, h] at h2
  simp only [Option.map_some, Option.some.injEq] at h2
  have h3 := idx_append (xs.take (i + 1)) (xs.drop (i + 1)) (y := x) (by rw [nUp_snoc h]; simp)
  rw [List.take_append_drop] at h3
  rw [h3] at h2
  have h4 : (dist (xs.take (i + 1))).idxOf x ≤ nUp xs i := by
    rw [nUp_snoc h, dist_snoc]
    unfold nUp
    by_cases hm : x ∈ dist (xs.take i)
    · rw [idx_addN hm]; exact List.idxOf_le_length
    · rw [idx_new hm]; exact Nat.le_refl _
  omega

/-- The greatest of the one form's numbers, and one more. -/
theorem nUp_canon {xs : List Int} {i : Nat} {x : Int} (h : xs[i]? = some x) :
    (if (nUp xs i : Int) ≤ ((dist xs).idxOf x : Int) then ((dist xs).idxOf x : Int) + 1 else (nUp xs i : Int)) = nUp xs (i + 1) := by
  have h3 := idx_append (xs.take (i + 1)) (xs.drop (i + 1)) (y := x) (by rw [nUp_snoc h]; simp)
  rw [List.take_append_drop] at h3
  rw [h3]
  unfold nUp
  rw [nUp_snoc h, dist_snoc]
  by_cases hm : x ∈ dist (xs.take i)
  · rw [idx_addN hm]
    have := List.idxOf_lt_length_of_mem hm
    unfold addN
    rw [if_pos hm, if_neg (by omega)]
  · rw [idx_new hm]
    unfold addN
    rw [if_neg hm, if_pos (by omega)]
    simp

end Pl
end Go.Proofs.YtfakdgljilmpkaaGreatDoor

namespace Go.Proofs.YtfakdgljilmpkaaGreatDoor
namespace Pl

/-- The class of a number. -/
def atL (c : List Int) (x : Int) : Int := c.getD x.toNat 0
def colE (c : List Int) (es : List E) : List E := (es.map (fun x => (atL c x.1, x.2.1, atL c x.2.2))).filter (fun y => !(decide (y.2.1 = 0) && decide (y.1 = y.2.2)))
/-- The collapsed system, by classes. -/
def col (s : Lts) (c : List Int) : Lts := ⟨((dist c).length : Int), s.lb, if s.st = 0 then 0 else atL c s.s0, nf ltE (colE c s.es)⟩

theorem mem_colE {c : List Int} {es : List E} {y : E} : y ∈ colE c es ↔ ∃ x ∈ es, y = (atL c x.1, x.2.1, atL c x.2.2) ∧ ¬ (y.2.1 = 0 ∧ y.1 = y.2.2) := by
  unfold colE
  rw [List.mem_filter, List.mem_map]
  constructor
  · rintro ⟨⟨x, hx, rfl⟩, h⟩
    refine ⟨x, hx, rfl, fun ⟨h1, h2⟩ => ?_⟩
    have h1' : x.2.1 = 0 := h1
    have h2' : atL c x.1 = atL c x.2.2 := h2
    simp [h1', h2'] at h
  · rintro ⟨x, hx, rfl, h⟩
    refine ⟨⟨x, hx, rfl⟩, ?_⟩
    by_cases h1 : x.2.1 = 0
    · have h2 : ¬ atL c x.1 = atL c x.2.2 := fun e => h ⟨h1, e⟩
      simp [h2]
    · simp [h1]
theorem colE_len (c : List Int) (es : List E) : (colE c es).length ≤ es.length := by
  unfold colE
  have := List.length_filter_le (fun y : E => !(decide (y.2.1 = 0) && decide (y.1 = y.2.2))) (es.map (fun x => (atL c x.1, x.2.1, atL c x.2.2)))
  rw [List.length_map] at this
  exact this
theorem col_srt (s : Lts) (c : List Int) : Srt ltE (col s c).es := srt_nf stoE _

theorem atL_fl {n : Nat} {f : Nat → Int} {x : Int} (h0 : 0 ≤ x) (h : x < (n : Int)) : atL (fl n f) x = f x.toNat := by
  unfold atL
  have : (fl n f)[x.toNat]? = some (f x.toNat) := fl_get f (by omega)
  rw [List.getD_eq_getElem?_getD, this]; rfl

section
variable {s : Lts} {n : Nat} {f : Nat → Int}

theorem dist_clf (n : Nat) (f : Nat → Int) : dist (fl n (clf n f)) = (List.range (dist (fl n f)).length).map Int.ofNat := by
  rw [← canon_fl, canon_dist]
theorem dist_clf_len (n : Nat) (f : Nat → Int) : (dist (fl n (clf n f))).length = (dist (fl n f)).length := by rw [dist_clf]; simp
theorem dist_pos {n : Nat} {f : Nat → Int} (h : 0 < n) : 0 < (dist (fl n f)).length := by
  have h1 : f 0 ∈ dist (fl n f) := (mem_dist _).2 (List.mem_of_getElem? (fl_get f h))
  exact List.length_pos_of_mem h1
theorem dist_le (n : Nat) (f : Nat → Int) : (dist (fl n f)).length ≤ n := by have := dist_len (fl n f); rw [fl_len] at this; exact this

/-- The collapsed system is one. -/
theorem col_right (hr : s.Right) (hn : s.st = (n : Int)) : (col s (fl n (clf n f))).Right := by
  have h0 := hr.st0
  have hd := dist_le n f
  have hdl := dist_clf_len n f
  have hat : ∀ x : Int, 0 ≤ x → x < (n : Int) → 0 ≤ atL (fl n (clf n f)) x ∧ atL (fl n (clf n f)) x < ((dist (fl n f)).length : Int) := by
    intro x h1 h2
    rw [atL_fl h1 h2]
    exact clf_rng (by omega)
  refine ⟨?_, fun y hy => ?_⟩
  · have h2 := colE_len (fl n (clf n f)) s.es
    have h3 := length_nf (lt := ltE) (colE (fl n (clf n f)) s.es)
    have h4 : 0 ≤ (col s (fl n (clf n f))).s0 ∧ ((col s (fl n (clf n f))).s0 = 0 ∨ (col s (fl n (clf n f))).s0 < ((dist (fl n f)).length : Int)) := by
      simp only [col]
      split
      · omega
      · rename_i hne
        have := hat s.s0 (by omega) (by omega)
        omega
    unfold HeadBad
    simp only [col] at *
    omega
  · obtain ⟨x, hx, rfl, _⟩ := mem_colE.1 ((mem_nf stoE y _).1 hy)
    have h1 := offB_false.1 (hr.edges x hx)
    have h2 := hat x.1 (by omega) (by omega)
    have h3 := hat x.2.2 (by omega) (by omega)
    rw [offB_false]
    simp only [col]
    omega

/-- A silent step of the collapsed system is one of the system, between two classes. -/
theorem tau_col (hr : s.Right) (hn : s.st = (n : Int)) {X Y : Nat} (h : tau (col s (fl n (clf n f))) X Y) : X ≠ Y ∧ ∃ x y, x < n ∧ y < n ∧ tau s x y ∧ clf n f x = (X : Int) ∧ clf n f y = (Y : Int) := by
  obtain ⟨e, he, heq, hne⟩ := mem_colE.1 ((mem_nf stoE _ _).1 h)
  have h1 := offB_false.1 (hr.edges e he)
  simp only [Prod.mk.injEq] at heq
  obtain ⟨q1, q2, q3⟩ := heq
  rw [atL_fl (by omega) (by omega)] at q1 q3
  refine ⟨fun e2 => hne ⟨rfl, by rw [e2]⟩, e.1.toNat, e.2.2.toNat, by omega, by omega, ?_, q1.symm, q3.symm⟩
  unfold tau
  rw [show ((e.1.toNat : Nat) : Int) = e.1 by omega, show ((e.2.2.toNat : Nat) : Int) = e.2.2 by omega, q2]
  exact he

/-- The number of a class's states. -/
noncomputable def rank (n : Nat) (f : Nat → Int) (X : Nat) : Int := (dist (fl n f)).getD X 0
theorem rank_of {n : Nat} {f : Nat → Int} {x X : Nat} (hx : x < n) (h : clf n f x = (X : Int)) : rank n f X = f x := by
  have hm : f x ∈ dist (fl n f) := (mem_dist _).2 (List.mem_of_getElem? (fl_get f hx))
  have h1 := List.idxOf_lt_length_of_mem hm
  have h2 : (dist (fl n f))[(dist (fl n f)).idxOf (f x)] = f x := List.getElem_idxOf h1
  unfold clf at h
  have hX : (dist (fl n f)).idxOf (f x) = X := by omega
  unfold rank
  subst hX
  rw [List.getD_eq_getElem?_getD, List.getElem?_eq_getElem h1, Option.getD_some, h2]

theorem rank_down (hr : s.Right) (hn : s.st = (n : Int)) (hc : Cyc s n f) {X Y : Nat} (h : tau (col s (fl n (clf n f))) X Y) : rank n f Y < rank n f X := by
  obtain ⟨hne, x, y, hx, hy, hxy, h1, h2⟩ := tau_col hr hn h
  rw [rank_of hx h1, rank_of hy h2]
  have h3 := hc.down x y hxy
  have h4 : f x ≠ f y := fun e => hne (by have := (clf_eq hx hy).2 e; omega)
  omega

theorem rank_TR (hr : s.Right) (hn : s.st = (n : Int)) (hc : Cyc s n f) {X Y : Nat} (h : TR (col s (fl n (clf n f))) X Y) : X = Y ∨ rank n f Y < rank n f X := by
  induction h with
  | refl => exact .inl rfl
  | tail _ ht ih =>
    have := rank_down hr hn hc ht
    rcases ih with rfl | h
    · exact .inr this
    · exact .inr (by omega)

/-- No cycle of silent steps is left. -/
theorem col_apart (hr : s.Right) (hn : s.st = (n : Int)) (hc : Cyc s n f) {m : Nat} {g : Nat → Int} (hg : Cyc (col s (fl n (clf n f))) m g) : canon (fl m g) = (List.range m).map Int.ofNat := by
  apply canon_inj
  intro X Y hX hY h
  obtain ⟨h1, h2⟩ := (hg.same X Y hX hY).1 h
  rcases rank_TR hr hn hc h1 with h3 | h3
  · exact h3
  · rcases rank_TR hr hn hc h2 with h4 | h4
    · exact h4.symm
    · omega

/-- It is its own collapse. -/
theorem col_col (hr : s.Right) (hn : s.st = (n : Int)) : col (col s (fl n (clf n f))) ((List.range (dist (fl n f)).length).map Int.ofNat) = col s (fl n (clf n f)) := by
  obtain ⟨m, hm⟩ : ∃ m, m = (dist (fl n f)).length := ⟨_, rfl⟩
  obtain ⟨t, ht⟩ : ∃ t, t = col s (fl n (clf n f)) := ⟨_, rfl⟩
  have htr : t.Right := by rw [ht]; exact col_right hr hn
  have hst : t.st = (m : Int) := by rw [ht, hm]; show ((dist (fl n (clf n f))).length : Int) = _; rw [dist_clf_len]
  have hes : Srt ltE t.es := by rw [ht]; exact col_srt s _
  have hne : ∀ y ∈ t.es, ¬ (y.2.1 = 0 ∧ y.1 = y.2.2) := by
    intro y hy
    rw [ht] at hy
    obtain ⟨x, _, _, h⟩ := mem_colE.1 ((mem_nf stoE _ _).1 hy)
    exact h
  have hs0 : t.st = 0 → t.s0 = 0 := fun h => by
    have := htr.st0; omega
  have hat : ∀ x : Int, 0 ≤ x → x < (m : Int) → atL ((List.range m).map Int.ofNat) x = x := by
    intro x h1 h2
    unfold atL
    have : ((List.range m).map Int.ofNat)[x.toNat]? = some x := by
      have h3 : x.toNat < m := by omega
      simp [h3]; omega
    rw [List.getD_eq_getElem?_getD, this]; rfl
  rw [← hm, ← ht]
  have h1 : ((dist ((List.range m).map Int.ofNat)).length : Int) = t.st := by rw [dist_ofNat, hst]; simp
  have h2 : (if t.st = 0 then 0 else atL ((List.range m).map Int.ofNat) t.s0) = t.s0 := by
    split
    · rename_i h; exact (hs0 h).symm
    · have := htr.st0; exact hat _ (by omega) (by omega)
  have h3 : nf ltE (colE ((List.range m).map Int.ofNat) t.es) = t.es := by
    symm
    apply eq_nf stoE hes
    intro y
    rw [mem_colE]
    constructor
    · intro hy
      have := offB_false.1 (htr.edges y hy)
      refine ⟨y, hy, ?_, hne y hy⟩
      rw [hat _ (by omega) (by omega), hat _ (by omega) (by omega)]
    · rintro ⟨x, hx, rfl, _⟩
      have := offB_false.1 (htr.edges x hx)
      rw [hat _ (by omega) (by omega), hat _ (by omega) (by omega)]
      exact hx
  show Lts.mk _ _ _ _ = t
  rw [h1, h2, h3]

end
end Pl
end Go.Proofs.YtfakdgljilmpkaaGreatDoor

namespace Go.Proofs.YtfakdgljilmpkaaGreatDoor
namespace Pl

/-- The silent steps of s, from q on. -/
def tauOf (s : Lts) (q : Int) : Lts := ⟨s.st, s.lb, q, s.es.filter (fun x => x.2.1 == 0)⟩
theorem tauOf_right {s : Lts} (h : s.Right) {q : Int} (h0 : 0 ≤ q) (h1 : q < s.st) : (tauOf s q).Right := by
  have hr := h.st0
  refine ⟨?_, fun x hx => h.edges x (List.mem_filter.1 hx).1⟩
  unfold HeadBad tauOf
  have := List.length_filter_le (fun x : E => x.2.1 == 0) s.es
  simp only
  omega
theorem mem_tauOf {s : Lts} {q x : Int} {y : S} : y ∈ (tauOf s q).outs x ↔ y ∈ s.outs x ∧ y.1 = 0 := by
  rw [mem_outs, mem_outs]
  unfold tauOf
  simp
end Pl
end Go.Proofs.YtfakdgljilmpkaaGreatDoor

namespace Go.Proofs.YtfakdgljilmpkaaGreatDoor
namespace Pl

section
variable {s : Lts} {n : Nat}

theorem SplitBy.congr {X Y : Nat → Prop} {inn inn' : Nat → Nat} (h : SplitBy s n X inn inn') (e : ∀ t, t < n → (X t ↔ Y t)) : SplitBy s n Y inn inn' := fun p q hp hq => by
  rw [h p q hp hq]
  have key : ∀ l p, intoX s n l X p ↔ intoX s n l Y p := fun l p => by
    unfold intoX
    constructor
    · rintro ⟨t, ht, hx, hs⟩; exact ⟨t, ht, (e t ht).1 hx, hs⟩
    · rintro ⟨t, ht, hx, hs⟩; exact ⟨t, ht, (e t ht).2 hx, hs⟩
  constructor
  · rintro ⟨h1, h2⟩; exact ⟨h1, fun l => by rw [← key, ← key]; exact h2 l⟩
  · rintro ⟨h1, h2⟩; exact ⟨h1, fun l => by rw [key, key]; exact h2 l⟩
theorem memN_congr {f g : Nat → Nat} (h : ∀ p, p < n → f p = g p) (b : Nat) : memN n f b = memN n g b := by
  unfold memN
  apply List.filter_congr
  intro x hx
  rw [h x (by simpa using hx)]
theorem Run.congr {inn hp hp' : Nat → Nat} {H : Nat} (h : Run s n inn hp H) (e : ∀ p, p < n → hp p = hp' p) : Run s n inn hp' H where
  sub p q hpn hqn he := by rw [← e p hpn, ← e q hqn]; exact h.sub p q hpn hqn he
  stab p q hpn hqn he l k := by
    have key : ∀ p, intoX s n l (fun t => hp t = k) p ↔ intoX s n l (fun t => hp' t = k) p := fun p => by
      unfold intoX
      constructor
      · rintro ⟨t, ht, hx, hs⟩; exact ⟨t, ht, by show hp' t = k; rw [← e t ht]; exact hx, hs⟩
      · rintro ⟨t, ht, hx, hs⟩; exact ⟨t, ht, by show hp t = k; rw [e t ht]; exact hx, hs⟩
    rw [← key, ← key]
    exact h.stab p q hpn hqn he l k
  all := h.all
  rng p hpn := by rw [← e p hpn]; exact h.rng p hpn
theorem Gau.congr {hp hp' ga ga' : Nat → Nat} (h : Gau n hp ga) (e : ∀ p, p < n → hp p = hp' p) (e2 : ∀ p, p < n → ga p = ga' p) : Gau n hp' ga' := fun p hpn => by
  rw [← e2 p hpn, ← e p hpn, ← memN_congr e]
  exact h p hpn

/-- A run's state between two takings. -/
structure RunS (s : Lts) (n : Nat) (inn hp ga : Nat → Nat) (sz : List Int) : Prop where
  run : Run s n inn hp sz.length
  gau : Gau n hp ga
  onto : ∀ k, k < sz.length → ∃ p, p < n ∧ hp p = k
  szs : ∀ k, k < sz.length → sz[k]? = some ((memN n hp k).length : Int)

theorem Gau.small {hp ga : Nat → Nat} (h : Gau n hp ga) {p : Nat} (hpn : p < n) : ga p ≤ n := by
  obtain ⟨h1, h2⟩ := h.le hpn
  have := Nat.lt_two_pow_self (n := ga p - 1)
  omega

theorem RunS.begin {inn : Nat → Nat} (hn : 0 < n) (h : SplitBy s n (· ∈ List.range n) (fun _ => 0) inn) : RunS s n inn (fun _ => 0) (fun p => if p ∈ List.range n then 0 + 1 else 0) [(n : Int)] where
  run := Run.begin (inn := fun _ => 0) (fun _ _ _ _ => rfl) (h.congr (fun t ht => by simpa using ht))
  gau := Gau.begin.congr (fun _ _ => rfl) (fun p hp => by simp [hp])
  onto k hk := ⟨0, hn, by simp at hk; omega⟩
  szs k hk := by
    have : k = 0 := by simp at hk; omega
    subst this
    have e : memN n (fun _ => 0) 0 = List.range n := by
      unfold memN
      exact List.filter_eq_self.2 (fun a _ => by simp)
    rw [e]; simp

/-- A block of at most half of its heap is taken. -/
theorem RunS.takeH {inn hp ga inn1 inn2 : Nat → Nat} {sz : List Int} {b h : Nat} (hr : RunS s n inn hp ga sz) (hb : ∀ p, p < n → inn p = b → hp p = h)
    (hhalf : 2 * (memN n inn b).length ≤ (memN n hp h).length) (hb0 : 0 < (memN n inn b).length) (h1 : SplitBy s n (· ∈ memN n inn b) inn inn1) (h2 : SplitBy s n (· ∈ memN n (fun p => if p ∈ memN n inn b then sz.length else hp p) h) inn1 inn2) {sh : Int} (hsh : sz[h]? = some sh) :
    RunS s n inn2 (fun p => if p ∈ memN n inn b then sz.length else hp p) (fun p => if p ∈ memN n inn b then ga p + 1 else ga p) ((sz ++ [((memN n inn b).length : Int)]).set h (sh - (memN n inn b).length)) := by
  have hh : h < sz.length := (List.getElem?_eq_some_iff.1 hsh).1
  have e : ∀ p, p < n → (if inn p = b then sz.length else hp p) = (if p ∈ memN n inn b then sz.length else hp p) := fun p hp => by
    by_cases hi : inn p = b
    · rw [if_pos hi, if_pos (mem_memN.2 ⟨hp, hi⟩)]
    · rw [if_neg hi, if_neg (fun hm => hi (mem_memN.1 hm).2)]
  have e2 : ∀ p, p < n → (if inn p = b then ga p + 1 else ga p) = (if p ∈ memN n inn b then ga p + 1 else ga p) := fun p hp => by
    by_cases hi : inn p = b
    · rw [if_pos hi, if_pos (mem_memN.2 ⟨hp, hi⟩)]
    · rw [if_neg hi, if_neg (fun hm => hi (mem_memN.1 hm).2)]
  have hlen : ((sz ++ [((memN n inn b).length : Int)]).set h (sh - (memN n inn b).length)).length = sz.length + 1 := by simp
  have hs1 : SplitBy s n (fun t => inn t = b) inn inn1 := h1.congr (fun t ht => by rw [mem_memN]; simp [ht])
  have hs2 : SplitBy s n (fun t => hp t = h ∧ inn t ≠ b) inn1 inn2 := h2.congr (fun t ht => by
    rw [mem_memN, ← e t ht]
    by_cases hi : inn t = b
    · rw [if_pos hi]; simp [hi]; omega
    · rw [if_neg hi]; simp [hi, ht])
  have hrest := memN_rest (n := n) (inn := inn) (hp := hp) (H := sz.length) (b := b) (h := h) hh hb
  refine ⟨by rw [hlen]; exact (hr.run.take hb hs1 hs2).congr e, (hr.gau.take hr.run.rng hb hhalf).congr e e2, fun k hk => ?_, fun k hk => ?_⟩
  · rw [hlen] at hk
    by_cases hkn : k = sz.length
    · obtain ⟨p, hp⟩ : ∃ p, p ∈ memN n inn b := ⟨_, List.getElem_mem hb0⟩
      exact ⟨p, (mem_memN.1 hp).1, by rw [if_pos hp, hkn]⟩
    · by_cases hkh : k = h
      · have hpos : 0 < (memN n (fun p => if inn p = b then sz.length else hp p) h).length := by omega
        obtain ⟨p, hp⟩ : ∃ p, p ∈ memN n (fun p => if inn p = b then sz.length else hp p) h := ⟨_, List.getElem_mem hpos⟩
        obtain ⟨hp1, hp2⟩ := mem_memN.1 hp
        exact ⟨p, hp1, by rw [← e p hp1, hkh]; exact hp2⟩
      · obtain ⟨p, hp1, hp2⟩ := hr.onto k (by omega)
        refine ⟨p, hp1, ?_⟩
        rw [← e p hp1, if_neg (fun hi => hkh (by rw [← hp2]; exact hb p hp1 hi)), hp2]
  · rw [hlen] at hk
    rw [← memN_congr e]
    rw [List.getElem?_set]
    by_cases hkh : h = k
    · subst hkh
      rw [if_pos rfl, if_pos (by simp; omega)]
      have hsz := hr.szs h hh
      rw [hsh] at hsz
      simp only [Option.some.injEq] at hsz ⊢
      omega
    · rw [if_neg hkh]
      by_cases hkn : k = sz.length
      · subst hkn
        rw [List.getElem?_append_right (Nat.le_refl _), memN_new hr.run.rng]
        simp
      · rw [List.getElem?_append_left (by omega), hr.szs k (by omega), memN_else hkn (fun e => hkh e.symm) hb]

theorem RunS.take {inn hp ga inn1 inn2 : Nat → Nat} {sz : List Int} {b c h : Nat} (hr : RunS s n inn hp ga sz) (hb : ∀ p, p < n → inn p = b → hp p = h) (hc : ∀ p, p < n → inn p = c → hp p = h) (hbc : b ≠ c)
    (hl : (memN n inn b).length ≤ (memN n inn c).length) (hb0 : 0 < (memN n inn b).length) (h1 : SplitBy s n (· ∈ memN n inn b) inn inn1) (h2 : SplitBy s n (· ∈ memN n (fun p => if p ∈ memN n inn b then sz.length else hp p) h) inn1 inn2) {sh : Int} (hsh : sz[h]? = some sh) :
    RunS s n inn2 (fun p => if p ∈ memN n inn b then sz.length else hp p) (fun p => if p ∈ memN n inn b then ga p + 1 else ga p) ((sz ++ [((memN n inn b).length : Int)]).set h (sh - (memN n inn b).length)) :=
  hr.takeH hb (half hb hc hbc hl) hb0 h1 h2 hsh

/-- Every heap has one block. -/
theorem RunS.done {inn hp ga : Nat → Nat} {sz : List Int} (hr : RunS s n inn hp ga sz) (h : ∀ p q, p < n → q < n → hp p = hp q → inn p = inn q) : Big s n (fun p => (inn p : Int)) := hr.run.done h
/-- So many heaps at most as states. -/
theorem RunS.few {inn hp ga : Nat → Nat} {sz : List Int} (hr : RunS s n inn hp ga sz) : sz.length ≤ n := heaps_le hr.onto
end
end Pl
end Go.Proofs.YtfakdgljilmpkaaGreatDoor
