/-
  Plain: the end of the walk over cycles of silent steps (Tarjan): the classes; what canon tells of them.
-/
import Derived.Test.YtopnedihknjjfaaGreatDoorPl8
import Derived.Test.YtopnedihknjjfaaGreatDoorGPl4
namespace Go.Proofs.YtopnedihknjjfaaGreatDoor
namespace Pl

/-- A numbering of the cycles of silent steps: silent steps never lead up. -/
structure Cyc (s : Lts) (n : Nat) (f : Nat → Int) : Prop where
  same : ∀ x y, x < n → y < n → (f x = f y ↔ TR s x y ∧ TR s y x)
  down : ∀ x y, tau s x y → f y ≤ f x

theorem TI.done {s : Lts} {n : Nat} {t : TS} {nx : Nat → Nat} (h : TI s n t [] nx) : t.opn = [] := by
  rcases List.eq_nil_or_concat t.opn with h1 | ⟨l, x, h1⟩
  · exact h1
  · obtain ⟨g, hg, _⟩ := h.back x (by rw [h1]; simp)
    simp at hg

theorem TI.cyc {s : Lts} {n : Nat} {t : TS} {nx : Nat → Nat} (h : TI s n t [] nx) (hr : s.Right) (hn : s.st = (n : Int)) (hall : ∀ x, x < n → t.num x ≠ 0) : Cyc s n t.cls := by
  have ho := h.done
  have hc : ∀ x, x < n → t.clo x := fun x hx => ⟨hall x hx, by rw [ho]; simp⟩
  exact ⟨fun x y hx hy => h.scc x y hx hy (hc x hx) (hc y hy), fun x y hxy => (h.clos x (tau_lt hr hn hxy).1 (hc x (tau_lt hr hn hxy).1) y hxy).2⟩

def fl (n : Nat) (f : Nat → Int) : List Int := (List.range n).map f
theorem fl_len (n : Nat) (f : Nat → Int) : (fl n f).length = n := by simp [fl]
theorem fl_get {n : Nat} (f : Nat → Int) {i : Nat} (h : i < n) : (fl n f)[i]? = some (f i) := by simp [fl, h]

theorem Cyc.unique {s : Lts} {n : Nat} {f g : Nat → Int} (hf : Cyc s n f) (hg : Cyc s n g) : canon (fl n f) = canon (fl n g) := by
  rw [sameT_canon (by rw [fl_len, fl_len])]
  intro i k x y x' y' hki hx hy hx' hy'
  have hi : i < n := by have := (List.getElem?_eq_some_iff.1 hx).1; rwa [fl_len] at this
  have hk : k < n := by omega
  rw [fl_get f hi] at hx; rw [fl_get f hk] at hy; rw [fl_get g hi] at hx'; rw [fl_get g hk] at hy'
  cases hx; cases hy; cases hx'; cases hy'
  rw [hf.same i k hi hk, hg.same i k hi hk]

/-- The class of a state, by the one form of a numbering. -/
def clf (n : Nat) (f : Nat → Int) (x : Nat) : Int := ((dist (fl n f)).idxOf (f x) : Int)
theorem canon_fl (n : Nat) (f : Nat → Int) : canon (fl n f) = fl n (clf n f) := by
  unfold canon fl clf
  rw [List.map_map]; rfl
theorem clf_eq {n : Nat} {f : Nat → Int} {x y : Nat} (hx : x < n) (hy : y < n) : clf n f x = clf n f y ↔ f x = f y :=
  canon_eq_iff (fl_get f hx) (fl_get f hy)
theorem clf_rng {n : Nat} {f : Nat → Int} {x : Nat} (hx : x < n) : 0 ≤ clf n f x ∧ clf n f x < (dist (fl n f)).length := by
  have : f x ∈ dist (fl n f) := (mem_dist _).2 (List.mem_of_getElem? (fl_get f hx))
  have := List.idxOf_lt_length_of_mem this
  unfold clf; omega

theorem dist_ofNat : ∀ m : Nat, dist ((List.range m).map Int.ofNat) = (List.range m).map Int.ofNat
  | 0 => rfl
  | m + 1 => by
    rw [List.range_succ, List.map_append, List.map_cons, List.map_nil, dist_snoc, dist_ofNat m]
    unfold addN
    rw [if_neg (by simp; omega)]
theorem idx_ofNat {m i : Nat} (h : i < m) : ((List.range m).map Int.ofNat).idxOf (i : Int) = i := by
  have hn : ((List.range m).map Int.ofNat).Nodup := by rw [← dist_ofNat]; exact nodup_dist _
  have hg : ((List.range m).map Int.ofNat)[i]? = some (i : Int) := by simp [h]
  exact idx_get hn hg
theorem canon_ofNat (m : Nat) : canon ((List.range m).map Int.ofNat) = (List.range m).map Int.ofNat := by
  unfold canon
  rw [dist_ofNat]
  apply List.ext_getElem?
  intro i
  by_cases h : i < m
  · have hg : ((List.range m).map Int.ofNat)[i]? = some (i : Int) := by simp [h]
    rw [List.getElem?_map, hg]
    show some ((((List.range m).map Int.ofNat).idxOf (i : Int) : Nat) : Int) = _
    rw [idx_ofNat h]
  · rw [List.getElem?_eq_none (by simp; omega), List.getElem?_eq_none (by simp; omega)]

/-- A numbering that keeps all apart has the numbers themselves for its one form. -/
theorem canon_inj {m : Nat} {f : Nat → Int} (h : ∀ x y, x < m → y < m → f x = f y → x = y) : canon (fl m f) = (List.range m).map Int.ofNat := by
  have h1 : fl m f = ((List.range m).map Int.ofNat).map (fun z => f z.toNat) := by
    unfold fl; rw [List.map_map]; rfl
  rw [h1, canon_map, canon_ofNat]
  intro x hx y hy hxy
  obtain ⟨i, hi, rfl⟩ := List.mem_map.1 hx
  obtain ⟨j, hj, rfl⟩ := List.mem_map.1 hy
  rw [List.mem_range] at hi hj
  have := h i j hi hj (by simpa using hxy)
  rw [this]

/-- The classes' numbers: how many there are, each one taken. -/
theorem canon_dist (l : List Int) : dist (canon l) = (List.range (dist l).length).map Int.ofNat := by
  have hinj : ∀ x ∈ l, ∀ y ∈ l, ((dist l).idxOf x : Int) = ((dist l).idxOf y : Int) → x = y := by
    intro x hx y hy he
    exact idx_inj ((mem_dist l).2 hx) ((mem_dist l).2 hy) (by omega)
  unfold canon
  rw [dist_map (f := fun x => ((dist l).idxOf x : Int)) l hinj]
  apply List.ext_getElem?
  intro i
  by_cases h : i < (dist l).length
  · have hg : (dist l)[i]? = some (dist l)[i] := List.getElem?_eq_getElem h
    rw [List.getElem?_map, hg]
    simp [idx_get (nodup_dist l) hg, h]
  · rw [List.getElem?_eq_none (by simp; omega), List.getElem?_eq_none (by simp; omega)]

theorem clf_onto {n : Nat} {f : Nat → Int} {k : Nat} (h : k < (dist (fl n f)).length) : ∃ x, x < n ∧ clf n f x = (k : Int) := by
  have hg : (dist (fl n f))[k]? = some (dist (fl n f))[k] := List.getElem?_eq_getElem h
  have hm : (dist (fl n f))[k] ∈ dist (fl n f) := List.getElem_mem h
  have hm2 := (mem_dist _).1 hm
  obtain ⟨x, hx, he⟩ := List.mem_map.1 (show (dist (fl n f))[k] ∈ (List.range n).map f from hm2)
  rw [List.mem_range] at hx
  refine ⟨x, hx, ?_⟩
  unfold clf
  rw [he]
  rw [idx_get (nodup_dist _) hg]

end Pl
end Go.Proofs.YtopnedihknjjfaaGreatDoor
