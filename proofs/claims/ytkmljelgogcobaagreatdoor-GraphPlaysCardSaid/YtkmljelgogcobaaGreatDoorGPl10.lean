/-
  Plain: the end of the walk over cycles of silent steps (Tarjan): the classes; what canon tells of them.
  Plain: the collapsed system; it has no cycle of silent steps and is its own collapse.
-/
import Derived.Test.YtkmljelgogcobaaGreatDoorPl8
import Derived.Test.YtkmljelgogcobaaGreatDoorGPl3
import Derived.Test.YtkmljelgogcobaaGreatDoorPl5
namespace Go.Proofs.YtkmljelgogcobaaGreatDoor
namespace Pl

/-- A numbering of the cycles of silent steps: silent steps never lead up. -/
structure Cyc (s : Lts) (n : Nat) (f : Nat → Int) : Prop where
  same : ∀ x y, x < n → y < n → (f x = f y ↔ TR s x y ∧ TR s y x)
  down : ∀ x y, tau s x y → f y ≤ f x

theorem TI.done {s : Lts} {n : Nat} {t : TS} {nx : Nat → Nat} (h : TI s n t [] nx) : t.opn = [] := by
  rcases List.eq_nil_or_concat t.opn with h1 | ⟨l, x, h1⟩
  · exact h1
  · obtain ⟨g, hg, _⟩ := h.back x (by rw [h1]; simp)
    simp at hg

theorem TI.cyc {s : Lts} {n : Nat} {t : TS} {nx : Nat → Nat} (h : TI s n t [] nx) (hr : s.Right) (hn : s.st = (n : Int)) (hall : ∀ x, x < n → t.num x ≠ 0) : Cyc s n t.cls := by
  have ho := h.done
  have hc : ∀ x, x < n → t.clo x := fun x hx => ⟨hall x hx, by rw [ho]; simp⟩
  exact ⟨fun x y hx hy => h.scc x y hx hy (hc x hx) (hc y hy), fun x y hxy => (h.clos x (tau_lt hr hn hxy).1 (hc x (tau_lt hr hn hxy).1) y hxy).2⟩

def fl (n : Nat) (f : Nat → Int) : List Int := (List.range n).map f
theorem fl_len (n : Nat) (f : Nat → Int) : (fl n f).length = n := by simp [fl]
theorem fl_get {n : Nat} (f : Nat → Int) {i : Nat} (h : i < n) : (fl n f)[i]? = some (f i) := by simp [fl, h]

theorem Cyc.unique {s : Lts} {n : Nat} {f g : Nat → Int} (hf : Cyc s n f) (hg : Cyc s n g) : canon (fl n f) = canon (fl n g) := by
  rw [sameT_canon (by rw [fl_len, fl_len])]
  intro i k x y x' y' hki hx hy hx' hy'
  have hi : i < n := by have := (List.getElem?_eq_some_iff.1 hx).1; rwa [fl_len] at this
  have hk : k < n := by omega
  rw [fl_get f hi] at hx; rw [fl_get f hk] at hy; rw [fl_get g hi] at hx'; rw [fl_get g hk] at hy'
  cases hx; cases hy; cases hx'; cases hy'
  rw [hf.same i k hi hk, hg.same i k hi hk]

/-- The class of a state, by the one form of a numbering. -/
def clf (n : Nat) (f : Nat → Int) (x : Nat) : Int := ((dist (fl n f)).idxOf (f x) : Int)
theorem canon_fl (n : Nat) (f : Nat → Int) : canon (fl n f) = fl n (clf n f) := by
  unfold canon fl clf
  rw [List.map_map]; rfl
theorem clf_eq {n : Nat} {f : Nat → Int} {x y : Nat} (hx : x < n) (hy : y < n) : clf n f x = clf n f y ↔ f x = f y :=
  canon_eq_iff (fl_get f hx) (fl_get f hy)
theorem clf_rng {n : Nat} {f : Nat → Int} {x : Nat} (hx : x < n) : 0 ≤ clf n f x ∧ clf n f x < (dist (fl n f)).length := by
  have : f x ∈ dist (fl n f) := (mem_dist _).2 (List.mem_of_getElem? (fl_get f hx))
  have := List.idxOf_lt_length_of_mem this
  unfold clf; omega

theorem dist_ofNat : ∀ m : Nat, dist ((List.range m).map Int.ofNat) = (List.range m).map Int.ofNat
  | 0 => rfl
  | m + 1 => by
    rw [List.range_succ, List.map_append, List.map_cons, List.map_nil, dist_snoc, dist_ofNat m]
    unfold addN
    rw [if_neg (by simp; omega)]
theorem idx_ofNat {m i : Nat} (h : i < m) : ((List.range m).map Int.ofNat).idxOf (i : Int) = i := by
  have hn : ((List.range m).map Int.ofNat).Nodup := by rw [← dist_ofNat]; exact nodup_dist _
  have hg : ((List.range m).map Int.ofNat)[i]? = some (i : Int) := by simp [h]
  exact idx_get hn hg
theorem canon_ofNat (m : Nat) : canon ((List.range m).map Int.ofNat) = (List.range m).map Int.ofNat := by
  unfold canon
  rw [dist_ofNat]
  apply List.ext_getElem?
  intro i
  by_cases h : i < m
  · have hg : ((List.range m).map Int.ofNat)[i]? = some (i : Int) := by simp [h]
    rw [List.getElem?_map, hg]
    show some ((((List.range m).map Int.ofNat).idxOf (i : Int) : Nat) : Int) = _
    rw [idx_ofNat h]
  · rw [List.getElem?_eq_none (by simp; omega), List.getElem?_eq_none (by simp; omega)]

/-- A numbering that keeps all apart has the numbers themselves for its one form. -/
theorem canon_inj {m : Nat} {f : Nat → Int} (h : ∀ x y, x < m → y < m → f x = f y → x = y) : canon (fl m f) = (List.range m).map Int.ofNat := by
  have h1 : fl m f = ((List.range m).map Int.ofNat).map (fun z => f z.toNat) := by
    unfold fl; rw [List.map_map]; rfl
  rw [h1, canon_map, canon_ofNat]
  intro x hx y hy hxy
  obtain ⟨i, hi, rfl⟩ := List.mem_map.1 hx
  obtain ⟨j, hj, rfl⟩ := List.mem_map.1 hy
  rw [List.mem_range] at hi hj
  have := h i j hi hj (by simpa using hxy)
  rw [this]

/-- The classes' numbers: how many there are, each one taken. -/
theorem canon_dist (l : List Int) : dist (canon l) = (List.range (dist l).length).map Int.ofNat := by
  have hinj : ∀ x ∈ l, ∀ y ∈ l, ((dist l).idxOf x : Int) = ((dist l).idxOf y : Int) → x = y := by
    intro x hx y hy he
    exact idx_inj ((mem_dist l).2 hx) ((mem_dist l).2 hy) (by omega)
  unfold canon
  rw [dist_map (f := fun x => ((dist l).idxOf x : Int)) l hinj]
  apply List.ext_getElem?
  intro i
  by_cases h : i < (dist l).length
  · have hg : (dist l)[i]? = some (dist l)[i] := List.getElem?_eq_getElem h
    rw [List.getElem?_map, hg]
    simp [idx_get (nodup_dist l) hg, h]
  · rw [List.getElem?_eq_none (by simp; omega), List.getElem?_eq_none (by simp; omega)]

theorem clf_onto {n : Nat} {f : Nat → Int} {k : Nat} (h : k < (dist (fl n f)).length) : ∃ x, x < n ∧ clf n f x = (k : Int) := by
  have hg : (dist (fl n f))[k]? = some (dist (fl n f))[k] := List.getElem?_eq_getElem h
  have hm : (dist (fl n f))[k] ∈ dist (fl n f) := List.getElem_mem h
  have hm2 := (mem_dist _).1 hm
  obtain ⟨x, hx, he⟩ := List.mem_map.1 (show (dist (fl n f))[k] ∈ (List.range n).map f from hm2)
  rw [List.mem_range] at hx
  refine ⟨x, hx, ?_⟩
  unfold clf
  rw [he]
  rw [idx_get (nodup_dist _) hg]

end Pl
end Go.Proofs.YtkmljelgogcobaaGreatDoor

namespace Go.Proofs.YtkmljelgogcobaaGreatDoor
namespace Pl

/-- The class of a number. -/
def atL (c : List Int) (x : Int) : Int := c.getD x.toNat 0
def colE (c : List Int) (es : List E) : List E := (es.map (fun x => (atL c x.1, x.2.1, atL c x.2.2))).filter (fun y => !(decide (y.2.1 = 0) && decide (y.1 = y.2.2)))
/-- The collapsed system, by classes. -/
def col (s : Lts) (c : List Int) : Lts := ⟨((dist c).length : Int), s.lb, if s.st = 0 then 0 else atL c s.s0, nf ltE (colE c s.es)⟩

theorem mem_colE {c : List Int} {es : List E} {y : E} : y ∈ colE c es ↔ ∃ x ∈ es, y = (atL c x.1, x.2.1, atL c x.2.2) ∧ ¬ (y.2.1 = 0 ∧ y.1 = y.2.2) := by
  unfold colE
  rw [List.mem_filter, List.mem_map]
  constructor
  · rintro ⟨⟨x, hx, rfl⟩, h⟩
    refine ⟨x, hx, rfl, fun ⟨h1, h2⟩ => ?_⟩
    have h1' : x.2.1 = 0 := h1
    have h2' : atL c x.1 = atL c x.2.2 := h2
    simp [h1', h2'] at h
  · rintro ⟨x, hx, rfl, h⟩
    refine ⟨⟨x, hx, rfl⟩, ?_⟩
    by_cases h1 : x.2.1 = 0
    · have h2 : ¬ atL c x.1 = atL c x.2.2 := fun e => h ⟨h1, e⟩
      simp [h2]
    · simp [h1]
theorem colE_len (c : List Int) (es : List E) : (colE c es).length ≤ es.length := by
  unfold colE
  have := List.length_filter_le (fun y : E => !(decide (y.2.1 = 0) && decide (y.1 = y.2.2))) (es.map (fun x => (atL c x.1, x.2.1, atL c x.2.2)))
  rw [List.length_map] at this
  exact this
theorem col_srt (s : Lts) (c : List Int) : Srt ltE (col s c).es := srt_nf stoE _

theorem atL_fl {n : Nat} {f : Nat → Int} {x : Int} (h0 : 0 ≤ x) (h : x < (n : Int)) : atL (fl n f) x = f x.toNat := by
  unfold atL
  have : (fl n f)[x.toNat]? = some (f x.toNat) := fl_get f (by omega)
  rw [List.getD_eq_getElem?_getD, this]; rfl

section
variable {s : Lts} {n : Nat} {f : Nat → Int}

theorem dist_clf (n : Nat) (f : Nat → Int) : dist (fl n (clf n f)) = (List.range (dist (fl n f)).length).map Int.ofNat := by
  rw [← canon_fl, canon_dist]
theorem dist_clf_len (n : Nat) (f : Nat → Int) : (dist (fl n (clf n f))).length = (dist (fl n f)).length := by rw [dist_clf]; simp
theorem dist_pos {n : Nat} {f : Nat → Int} (h : 0 < n) : 0 < (dist (fl n f)).length := by
  have h1 : f 0 ∈ dist (fl n f) := (mem_dist _).2 (List.mem_of_getElem? (fl_get f h))
  exact List.length_pos_of_mem h1
theorem dist_le (n : Nat) (f : Nat → Int) : (dist (fl n f)).length ≤ n := by have := dist_len (fl n f); rw [fl_len] at this; exact this

/-- The collapsed system is one. -/
theorem col_right (hr : s.Right) (hn : s.st = (n : Int)) : (col s (fl n (clf n f))).Right := by
  have h0 := hr.st0
  have hd := dist_le n f
  have hdl := dist_clf_len n f
  have hat : ∀ x : Int, 0 ≤ x → x < (n : Int) → 0 ≤ atL (fl n (clf n f)) x ∧ atL (fl n (clf n f)) x < ((dist (fl n f)).length : Int) := by
    intro x h1 h2
    rw [atL_fl h1 h2]
    exact clf_rng (by omega)
  refine ⟨?_, fun y hy => ?_⟩
  · have h2 := colE_len (fl n (clf n f)) s.es
    have h3 := length_nf (lt := ltE) (colE (fl n (clf n f)) s.es)
    have h4 : 0 ≤ (col s (fl n (clf n f))).s0 ∧ ((col s (fl n (clf n f))).s0 = 0 ∨ (col s (fl n (clf n f))).s0 < ((dist (fl n f)).length : Int)) := by
      simp only [col]
      split
      · omega
      · rename_i hne
        have := hat s.s0 (by omega) (by omega)
        omega
    unfold HeadBad
    simp only [col] at *
    omega
  · obtain ⟨x, hx, rfl, _⟩ := mem_colE.1 ((mem_nf stoE y _).1 hy)
    have h1 := offB_false.1 (hr.edges x hx)
    have h2 := hat x.1 (by omega) (by omega)
    have h3 := hat x.2.2 (by omega) (by omega)
    rw [offB_false]
    simp only [col]
    omega

/-- A silent step of the collapsed system is one of the system, between two classes. -/
theorem tau_col (hr : s.Right) (hn : s.st = (n : Int)) {X Y : Nat} (h : tau (col s (fl n (clf n f))) X Y) : X ≠ Y ∧ ∃ x y, x < n ∧ y < n ∧ tau s x y ∧ clf n f x = (X : Int) ∧ clf n f y = (Y : Int) := by
  obtain ⟨e, he, heq, hne⟩ := mem_colE.1 ((mem_nf stoE _ _).1 h)
  have h1 := offB_false.1 (hr.edges e he)
  simp only [Prod.mk.injEq] at heq
  obtain ⟨q1, q2, q3⟩ := heq
  rw [atL_fl (by omega) (by omega)] at q1 q3
  refine ⟨fun e2 => hne ⟨rfl, by rw [e2]⟩, e.1.toNat, e.2.2.toNat, by omega, by omega, ?_, q1.symm, q3.symm⟩
  unfold tau
  rw [show ((e.1.toNat : Nat) : Int) = e.1 by omega, show ((e.2.2.toNat : Nat) : Int) = e.2.2 by omega, q2]
  exact he

/-- The number of a class's states. -/
noncomputable def rank (n : Nat) (f : Nat → Int) (X : Nat) : Int := (dist (fl n f)).getD X 0
theorem rank_of {n : Nat} {f : Nat → Int} {x X : Nat} (hx : x < n) (h : clf n f x = (X : Int)) : rank n f X = f x := by
  have hm : f x ∈ dist (fl n f) := (mem_dist _).2 (List.mem_of_getElem? (fl_get f hx))
  have h1 := List.idxOf_lt_length_of_mem hm
  have h2 : (dist (fl n f))[(dist (fl n f)).idxOf (f x)] = f x := List.getElem_idxOf h1
  unfold clf at h
  have hX : (dist (fl n f)).idxOf (f x) = X := by omega
  unfold rank
  subst hX
  rw [List.getD_eq_getElem?_getD, List.getElem?_eq_getElem h1, Option.getD_some, h2]

theorem rank_down (hr : s.Right) (hn : s.st = (n : Int)) (hc : Cyc s n f) {X Y : Nat} (h : tau (col s (fl n (clf n f))) X Y) : rank n f Y < rank n f X := by
  obtain ⟨hne, x, y, hx, hy, hxy, h1, h2⟩ := tau_col hr hn h
  rw [rank_of hx h1, rank_of hy h2]
  have h3 := hc.down x y hxy
  have h4 : f x ≠ f y := fun e => hne (by have := (clf_eq hx hy).2 e; omega)
  omega

theorem rank_TR (hr : s.Right) (hn : s.st = (n : Int)) (hc : Cyc s n f) {X Y : Nat} (h : TR (col s (fl n (clf n f))) X Y) : X = Y ∨ rank n f Y < rank n f X := by
  induction h with
  | refl => exact .inl rfl
  | tail _ ht ih =>
    have := rank_down hr hn hc ht
    rcases ih with rfl | h
    · exact .inr this
    · exact .inr (by omega)

/-- No cycle of silent steps is left. -/
theorem col_apart (hr : s.Right) (hn : s.st = (n : Int)) (hc : Cyc s n f) {m : Nat} {g : Nat → Int} (hg : Cyc (col s (fl n (clf n f))) m g) : canon (fl m g) = (List.range m).map Int.ofNat := by
  apply canon_inj
  intro X Y hX hY h
  obtain ⟨h1, h2⟩ := (hg.same X Y hX hY).1 h
  rcases rank_TR hr hn hc h1 with h3 | h3
  · exact h3
  · rcases rank_TR hr hn hc h2 with h4 | h4
    · exact h4.symm
    · omega

/-- It is its own collapse. -/
theorem col_col (hr : s.Right) (hn : s.st = (n : Int)) : col (col s (fl n (clf n f))) ((List.range (dist (fl n f)).length).map Int.ofNat) = col s (fl n (clf n f)) := by
  obtain ⟨m, hm⟩ : ∃ m, m = (dist (fl n f)).length := ⟨_, rfl⟩
  obtain ⟨t, ht⟩ : ∃ t, t = col s (fl n (clf n f)) := ⟨_, rfl⟩
  have htr : t.Right := by rw [ht]; exact col_right hr hn
  have hst : t.st = (m : Int) := by rw [ht, hm]; show ((dist (fl n (clf n f))).length : Int) = _; rw [dist_clf_len]
  have hes : Srt ltE t.es := by rw [ht]; exact col_srt s _
  have hne : ∀ y ∈ t.es, ¬ (y.2.1 = 0 ∧ y.1 = y.2.2) := by
    intro y hy
    rw [ht] at hy
    obtain ⟨x, _, _, h⟩ := mem_colE.1 ((mem_nf stoE _ _).1 hy)
    exact h
  have hs0 : t.st = 0 → t.s0 = 0 := fun h => by
    have := htr.st0; omega
  have hat : ∀ x : Int, 0 ≤ x → x < (m : Int) → atL ((List.range m).map Int.ofNat) x = x := by
    intro x h1 h2
    unfold atL
    have : ((List.range m).map Int.ofNat)[x.toNat]? = some x := by
      have h3 : x.toNat < m := by omega
      simp [h3]; omega
    rw [List.getD_eq_getElem?_getD, this]; rfl
  rw [← hm, ← ht]
  have h1 : ((dist ((List.range m).map Int.ofNat)).length : Int) = t.st := by rw [dist_ofNat, hst]; simp
  have h2 : (if t.st = 0 then 0 else atL ((List.range m).map Int.ofNat) t.s0) = t.s0 := by
    split
    · rename_i h; exact (hs0 h).symm
    · have := htr.st0; exact hat _ (by omega) (by omega)
  have h3 : nf ltE (colE ((List.range m).map Int.ofNat) t.es) = t.es := by
    symm
    apply eq_nf stoE hes
    intro y
    rw [mem_colE]
    constructor
    · intro hy
      have := offB_false.1 (htr.edges y hy)
      refine ⟨y, hy, ?_, hne y hy⟩
      rw [hat _ (by omega) (by omega), hat _ (by omega) (by omega)]
    · rintro ⟨x, hx, rfl, _⟩
      have := offB_false.1 (htr.edges x hx)
      rw [hat _ (by omega) (by omega), hat _ (by omega) (by omega)]
      exact hx
  show Lts.mk _ _ _ _ = t
  rw [h1, h2, h3]

end
end Pl
end Go.Proofs.YtkmljelgogcobaaGreatDoor
