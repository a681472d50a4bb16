/-
  Lemmas.
-/
import Derived.Test.YtbaccmlfnbgehaaGreatDoorGPlB
import Derived.Test.YtbaccmlfnbgehaaGreatDoorGPl1
namespace Go.Proofs.YtbaccmlfnbgehaaGreatDoor
namespace Pl
def addN (s : List Int) (x : Int) : List Int := if x ∈ s then s else s ++ [x]
def dist (l : List Int) : List Int := l.foldl addN []
theorem dist_snoc (l : List Int) (x : Int) : dist (l ++ [x]) = addN (dist l) x := by simp [dist, List.foldl_append]
theorem mem_addN {s : List Int} {x y : Int} : y ∈ addN s x ↔ y ∈ s ∨ y = x := by
  unfold addN; split
  · constructor
    · exact Or.inl
    · rintro (h | rfl)
      · exact h
      · assumption
  · simp
theorem rev_ind {P : List Int → Prop} (h0 : P []) (h1 : ∀ l x, P l → P (l ++ [x])) (l : List Int) : P l := by
  have : ∀ m : List Int, P m.reverse := by
    intro m
    induction m with
    | nil => exact h0
    | cons x m ih => rw [List.reverse_cons]; exact h1 _ _ ih
  simpa using this l.reverse
theorem mem_dist {x : Int} (l : List Int) : x ∈ dist l ↔ x ∈ l := by
  induction l using rev_ind with
  | h0 => simp [dist]
  | h1 l y ih => rw [dist_snoc, mem_addN, ih]; simp
theorem nodup_dist (l : List Int) : (dist l).Nodup := by
  induction l using rev_ind with
  | h0 => simp [dist]
  | h1 l y ih =>
    rw [dist_snoc]; unfold addN; split
    · exact ih
    · rw [List.nodup_append]; exact ⟨ih, by simp, by intro a ha b hb e; simp at hb; subst hb; subst e; contradiction⟩
theorem dist_len (l : List Int) : (dist l).length ≤ l.length := by
  induction l using rev_ind with
  | h0 => simp [dist]
  | h1 l y ih => rw [dist_snoc]; unfold addN; split <;> simp <;> omega
theorem idx_addN {s : List Int} {x y : Int} (h : y ∈ s) : (addN s x).idxOf y = s.idxOf y := by
  unfold addN; split
  · rfl
  · rw [List.idxOf_append]; simp [h]
theorem idx_append (l m : List Int) {y : Int} (h : y ∈ l) : (dist (l ++ m)).idxOf y = (dist l).idxOf y := by
  induction m using rev_ind with
  | h0 => simp
  | h1 m x ih => rw [← List.append_assoc, dist_snoc, idx_addN ((mem_dist _).2 (by simp [h])), ih]
def canon (l : List Int) : List Int := l.map (fun x => ((dist l).idxOf x : Int))
theorem canon_len (l : List Int) : (canon l).length = l.length := by simp [canon]
theorem canon_get (l : List Int) (i : Nat) : (canon l)[i]? = l[i]?.map (fun x => ((dist l).idxOf x : Int)) := by simp [canon]
theorem idx_inj {l : List Int} {x y : Int} (hx : x ∈ l) (hy : y ∈ l) (h : l.idxOf x = l.idxOf y) : x = y := by
  have h1 := List.getElem_idxOf (List.idxOf_lt_length_of_mem hx)
  have h2 := List.getElem_idxOf (List.idxOf_lt_length_of_mem hy)
  rw [← h1, ← h2]
  congr 1
theorem addN_map {f : Int → Int} {s : List Int} {x : Int} (hf : ∀ y ∈ s, f y = f x → y = x) : addN (s.map f) (f x) = (addN s x).map f := by
  unfold addN
  by_cases h : x ∈ s
  · rw [if_pos h, if_pos (List.mem_map_of_mem h)]
  · rw [if_neg h, if_neg]
    · simp
    · intro hm; obtain ⟨y, hy, e⟩ := List.mem_map.1 hm; exact h (hf y hy e ▸ hy)
theorem dist_map {f : Int → Int} (l : List Int) (hf : ∀ x ∈ l, ∀ y ∈ l, f x = f y → x = y) : dist (l.map f) = (dist l).map f := by
  induction l using rev_ind with
  | h0 => simp [dist]
  | h1 l y ih =>
    rw [List.map_append, List.map_cons, List.map_nil, dist_snoc, ih (fun a ha b hb => hf a (by simp [ha]) b (by simp [hb])), dist_snoc]
    exact addN_map (fun z hz => hf z (by simp [(mem_dist l).1 hz]) y (by simp))
theorem idx_map {f : Int → Int} {x : Int} : ∀ l : List Int, (∀ y ∈ l, f y = f x → y = x) → (l.map f).idxOf (f x) = l.idxOf x
  | [], _ => rfl
  | y :: l, h => by
    have ih := idx_map l (fun z hz => h z (by simp [hz]))
    rw [List.map_cons, List.idxOf_cons, List.idxOf_cons]
    by_cases e : y = x
    · subst e; simp
    · have : ¬ f y = f x := fun e2 => e (h y (by simp) e2)
      simp only [beq_iff_eq, e, this, if_false, ih, cond_eq_ite]
theorem canon_map {f : Int → Int} {l : List Int} (hf : ∀ x ∈ l, ∀ y ∈ l, f x = f y → x = y) : canon (l.map f) = canon l := by
  unfold canon
  rw [List.map_map, dist_map l hf]
  apply List.map_congr_left
  intro x hx
  simp only [Function.comp]
  rw [idx_map _ (fun y hy => hf y ((mem_dist l).1 hy) x hx)]
theorem canon_eq_iff {l : List Int} {i k : Nat} {x y : Int} (hx : l[i]? = some x) (hy : l[k]? = some y) : ((dist l).idxOf x : Int) = ((dist l).idxOf y : Int) ↔ x = y := by
  constructor
  · intro h; exact idx_inj ((mem_dist l).2 (List.mem_of_getElem? hx)) ((mem_dist l).2 (List.mem_of_getElem? hy)) (Int.ofNat.inj h)
  · rintro rfl; rfl
def SameT (a b : List Int) : Prop := ∀ (i k : Nat) (x y x' y' : Int), k < i → a[i]? = some x → a[k]? = some y → b[i]? = some x' → b[k]? = some y' → (x = y ↔ x' = y')
theorem sameT_canon {a b : List Int} (hl : a.length = b.length) : canon a = canon b ↔ SameT a b := by
  constructor
  · intro h i k x y x' y' _ hx hy hx' hy'
    have e1 := congrArg (fun l => l[i]?) h
    have e2 := congrArg (fun l => l[k]?) h
    simp only [canon_get, hx, hy, hx', hy', Option.map_some, Option.some.injEq] at e1 e2
    rw [← canon_eq_iff hx hy, ← canon_eq_iff hx' hy', e1, e2]
  · intro h
    have hs : ∀ (i k : Nat) (x y x' y' : Int), a[i]? = some x → a[k]? = some y → b[i]? = some x' → b[k]? = some y' → (x = y ↔ x' = y') := by
      intro i k x y x' y' hx hy hx' hy'
      rcases Nat.lt_trichotomy k i with hlt | rfl | hlt
      · exact h i k x y x' y' hlt hx hy hx' hy'
      · rw [hx] at hy; rw [hx'] at hy'; simp at hy hy'; simp [hy, hy']
      · have := h k i y x y' x' hlt hy hx hy' hx'
        rw [eq_comm, this, eq_comm]
    have hb : b = a.map (fun x => b.getD (a.idxOf x) 0) := by
      apply List.ext_getElem?
      intro i
      by_cases hi : i < a.length
      · have hx := List.getElem?_eq_getElem hi
        have hx' := List.getElem?_eq_getElem (show i < b.length by omega)
        have hm : a[i] ∈ a := List.getElem_mem hi
        have hlt := List.idxOf_lt_length_of_mem hm
        have hj : a[a.idxOf a[i]]? = some a[i] := by rw [List.getElem?_eq_getElem hlt, List.getElem_idxOf hlt]
        have hj' := List.getElem?_eq_getElem (show a.idxOf a[i] < b.length by omega)
        rw [List.getElem?_map, hx, hx']
        simp only [Option.map_some, Option.some.injEq]
        rw [List.getD_eq_getElem?_getD, hj']
        simpa using (hs i _ _ _ _ _ hx hj hx' hj').1 rfl
      · rw [List.getElem?_eq_none (by omega), List.getElem?_eq_none (by simp; omega)]
    rw [hb]
    refine (canon_map ?_).symm
    intro x hx y hy he
    obtain ⟨i, hi, rfl⟩ := List.getElem_of_mem hx
    obtain ⟨k, hk, rfl⟩ := List.getElem_of_mem hy
    have hm1 := List.idxOf_lt_length_of_mem hx
    have hm2 := List.idxOf_lt_length_of_mem hy
    have hj1 : a[a.idxOf a[i]]? = some a[i] := by rw [List.getElem?_eq_getElem hm1, List.getElem_idxOf hm1]
    have hj2 : a[a.idxOf a[k]]? = some a[k] := by rw [List.getElem?_eq_getElem hm2, List.getElem_idxOf hm2]
    rw [List.getD_eq_getElem?_getD, List.getD_eq_getElem?_getD, List.getElem?_eq_getElem (show a.idxOf a[i] < b.length by omega), List.getElem?_eq_getElem (show a.idxOf a[k] < b.length by omega)] at he
    exact (hs _ _ _ _ _ _ hj1 hj2 (List.getElem?_eq_getElem (by omega)) (List.getElem?_eq_getElem (by omega))).2 (by simpa using he)
end Pl
end Go.Proofs.YtbaccmlfnbgehaaGreatDoor
namespace Go.Proofs.YtbaccmlfnbgehaaGreatDoor
namespace Pl
structure Cyc (s : Lts) (n : Nat) (f : Nat → Int) : Prop where
  same : ∀ x y, x < n → y < n → (f x = f y ↔ TR s x y ∧ TR s y x)
  down : ∀ x y, tau s x y → f y ≤ f x
theorem TI.done {s : Lts} {n : Nat} {t : TS} {nx : Nat → Nat} (h : TI s n t [] nx) : t.opn = [] := by
  rcases List.eq_nil_or_concat t.opn with h1 | ⟨l, x, h1⟩
  · exact h1
  · obtain ⟨g, hg, _⟩ := h.back x (by rw [h1]; simp)
    simp at hg
theorem TI.cyc {s : Lts} {n : Nat} {t : TS} {nx : Nat → Nat} (h : TI s n t [] nx) (hr : s.Right) (hn : s.st = (n : Int)) (hall : ∀ x, x < n → t.num x ≠ 0) : Cyc s n t.cls := by
  have ho := h.done
  have hc : ∀ x, x < n → t.clo x := fun x hx => ⟨hall x hx, by rw [ho]; simp⟩
  exact ⟨fun x y hx hy => h.scc x y hx hy (hc x hx) (hc y hy), fun x y hxy => (h.clos x (tau_lt hr hn hxy).1 (hc x (tau_lt hr hn hxy).1) y hxy).2⟩
def fl (n : Nat) (f : Nat → Int) : List Int := (List.range n).map f
theorem fl_len (n : Nat) (f : Nat → Int) : (fl n f).length = n := by simp [fl]
theorem fl_get {n : Nat} (f : Nat → Int) {i : Nat} (h : i < n) : (fl n f)[i]? = some (f i) := by simp [fl, h]
def clf (n : Nat) (f : Nat → Int) (x : Nat) : Int := ((dist (fl n f)).idxOf (f x) : Int)
theorem canon_fl (n : Nat) (f : Nat → Int) : canon (fl n f) = fl n (clf n f) := by
  unfold canon fl clf
  rw [List.map_map]; rfl
theorem clf_eq {n : Nat} {f : Nat → Int} {x y : Nat} (hx : x < n) (hy : y < n) : clf n f x = clf n f y ↔ f x = f y :=
  canon_eq_iff (fl_get f hx) (fl_get f hy)
theorem clf_rng {n : Nat} {f : Nat → Int} {x : Nat} (hx : x < n) : 0 ≤ clf n f x ∧ clf n f x < (dist (fl n f)).length := by
  have : f x ∈ dist (fl n f) := (mem_dist _).2 (List.mem_of_getElem? (fl_get f hx))
  have := List.idxOf_lt_length_of_mem this
  unfold clf; omega
theorem canon_dist (l : List Int) : dist (canon l) = (List.range (dist l).length).map Int.ofNat := by
  have hinj : ∀ x ∈ l, ∀ y ∈ l, ((dist l).idxOf x : Int) = ((dist l).idxOf y : Int) → x = y := by
    intro x hx y hy he
    exact idx_inj ((mem_dist l).2 hx) ((mem_dist l).2 hy) (by omega)
  unfold canon
  rw [dist_map (f := fun x => ((dist l).idxOf x : Int)) l hinj]
  apply List.ext_getElem?
  intro i
  by_cases h : i < (dist l).length
  · have hg : (dist l)[i]? = some (dist l)[i] := List.getElem?_eq_getElem h
    rw [List.getElem?_map, hg]
    simp [idx_get (nodup_dist l) hg, h]
  · rw [List.getElem?_eq_none (by simp; omega), List.getElem?_eq_none (by simp; omega)]
end Pl
end Go.Proofs.YtbaccmlfnbgehaaGreatDoor
namespace Go.Proofs.YtbaccmlfnbgehaaGreatDoor
namespace Pl
def atL (c : List Int) (x : Int) : Int := c.getD x.toNat 0
def colE (c : List Int) (es : List E) : List E := (es.map (fun x => (atL c x.1, x.2.1, atL c x.2.2))).filter (fun y => !(decide (y.2.1 = 0) && decide (y.1 = y.2.2)))
def col (s : Lts) (c : List Int) : Lts := ⟨((dist c).length : Int), s.lb, if s.st = 0 then 0 else atL c s.s0, nf ltE (colE c s.es)⟩
theorem mem_colE {c : List Int} {es : List E} {y : E} : y ∈ colE c es ↔ ∃ x ∈ es, y = (atL c x.1, x.2.1, atL c x.2.2) ∧ ¬ (y.2.1 = 0 ∧ y.1 = y.2.2) := by
  unfold colE
  rw [List.mem_filter, List.mem_map]
  constructor
  · rintro ⟨⟨x, hx, rfl⟩, h⟩
    refine ⟨x, hx, rfl, fun ⟨h1, h2⟩ => ?_⟩
    have h1' : x.2.1 = 0 := h1
    have h2' : atL c x.1 = atL c x.2.2 := h2
    simp [h1', h2'] at h
  · rintro ⟨x, hx, rfl, h⟩
    refine ⟨⟨x, hx, rfl⟩, ?_⟩
    by_cases h1 : x.2.1 = 0
    · have h2 : ¬ atL c x.1 = atL c x.2.2 := fun e => h ⟨h1, e⟩
      simp [h2]
    · simp [h1]
theorem colE_len (c : List Int) (es : List E) : (colE c es).length ≤ es.length := by
  unfold colE
  have := List.length_filter_le (fun y : E => !(decide (y.2.1 = 0) && decide (y.1 = y.2.2))) (es.map (fun x => (atL c x.1, x.2.1, atL c x.2.2)))
  rw [List.length_map] at this
  exact this
theorem col_srt (s : Lts) (c : List Int) : Srt ltE (col s c).es := srt_nf stoE _
theorem atL_fl {n : Nat} {f : Nat → Int} {x : Int} (h0 : 0 ≤ x) (h : x < (n : Int)) : atL (fl n f) x = f x.toNat := by
  unfold atL
  have : (fl n f)[x.toNat]? = some (f x.toNat) := fl_get f (by omega)
  rw [List.getD_eq_getElem?_getD, this]; rfl
section
variable {s : Lts} {n : Nat} {f : Nat → Int}
theorem dist_clf (n : Nat) (f : Nat → Int) : dist (fl n (clf n f)) = (List.range (dist (fl n f)).length).map Int.ofNat := by
  rw [← canon_fl, canon_dist]
theorem dist_clf_len (n : Nat) (f : Nat → Int) : (dist (fl n (clf n f))).length = (dist (fl n f)).length := by rw [dist_clf]; simp
theorem dist_le (n : Nat) (f : Nat → Int) : (dist (fl n f)).length ≤ n := by have := dist_len (fl n f); rw [fl_len] at this; exact this
theorem col_right (hr : s.Right) (hn : s.st = (n : Int)) : (col s (fl n (clf n f))).Right := by
  have h0 := hr.st0
  have hd := dist_le n f
  have hdl := dist_clf_len n f
  have hat : ∀ x : Int, 0 ≤ x → x < (n : Int) → 0 ≤ atL (fl n (clf n f)) x ∧ atL (fl n (clf n f)) x < ((dist (fl n f)).length : Int) := by
    intro x h1 h2
    rw [atL_fl h1 h2]
    exact clf_rng (by omega)
  refine ⟨?_, fun y hy => ?_⟩
  · have h2 := colE_len (fl n (clf n f)) s.es
    have h3 := length_nf (lt := ltE) (colE (fl n (clf n f)) s.es)
    have h4 : 0 ≤ (col s (fl n (clf n f))).s0 ∧ ((col s (fl n (clf n f))).s0 = 0 ∨ (col s (fl n (clf n f))).s0 < ((dist (fl n f)).length : Int)) := by
      simp only [col]
      split
      · omega
      · rename_i hne
        have := hat s.s0 (by omega) (by omega)
        omega
    unfold HeadBad
    simp only [col] at *
    omega
  · obtain ⟨x, hx, rfl, _⟩ := mem_colE.1 ((mem_nf stoE y _).1 hy)
    have h1 := offB_false.1 (hr.edges x hx)
    have h2 := hat x.1 (by omega) (by omega)
    have h3 := hat x.2.2 (by omega) (by omega)
    rw [offB_false]
    simp only [col]
    omega
noncomputable def rank (n : Nat) (f : Nat → Int) (X : Nat) : Int := (dist (fl n f)).getD X 0
end
end Pl
end Go.Proofs.YtbaccmlfnbgehaaGreatDoor
namespace Go.Proofs.YtbaccmlfnbgehaaGreatDoor
namespace Pl
def nUp (xs : List Int) (i : Nat) : Nat := (dist (xs.take i)).length
end Pl
end Go.Proofs.YtbaccmlfnbgehaaGreatDoor
namespace Go.Proofs.YtbaccmlfnbgehaaGreatDoor
namespace Pl
theorem nodup_sub : ∀ (L M : List Nat), L.Nodup → (∀ x ∈ L, x ∈ M) → L.length ≤ M.length
  | [], _, _, _ => by simp
  | x :: L, M, hn, hs => by
    have hx := List.nodup_cons.1 hn
    have hm := hs x List.mem_cons_self
    have ih := nodup_sub L (M.erase x) hx.2 (fun y hy => (List.mem_erase_of_ne (fun e : y = x => hx.1 (e ▸ hy))).2 (hs y (List.mem_cons_of_mem _ hy)))
    rw [List.length_erase_of_mem hm] at ih
    have := List.length_pos_of_mem hm
    simp; omega
section
variable {t : Lts}
def Wt (t : Lts) (D : List Nat) (k : Nat) : Nat := ((taus t k).filter (fun y => !decide (y ∈ D))).length
theorem Wt_zero (hr : t.Right) (hs : Srt ltE t.es) {D : List Nat} {k : Nat} : Wt t D k = 0 ↔ ∀ y, tau t k y → y ∈ D := by
  unfold Wt
  rw [List.length_eq_zero_iff, List.filter_eq_nil_iff]
  constructor
  · intro h y hy
    have := h y ((mem_taus hr hs).2 hy)
    simpa using this
  · intro h y hy
    have := h y ((mem_taus hr hs).1 hy)
    simp [this]
structure IsNext (t : Lts) (m : Nat) (D : List Nat) (k : Nat) : Prop where
  lt : k < m
  new : k ∉ D
  all : Wt t D k = 0
  first : ∀ j, j < k → j ∈ D ∨ Wt t D j ≠ 0
inductive OrdL (t : Lts) (m : Nat) : List Nat → Prop
  | nil : OrdL t m []
  | step {D : List Nat} {k : Nat} : OrdL t m D → IsNext t m D k → OrdL t m (D ++ [k])
theorem OrdL.nodup {m : Nat} {D : List Nat} (h : OrdL t m D) : D.Nodup := by
  induction h with
  | nil => simp
  | step _ h2 ih =>
    rw [List.nodup_append]
    exact ⟨ih, by simp, fun a ha b hb e => by simp at hb; subst hb; subst e; exact h2.new ha⟩
theorem OrdL.rng {m : Nat} {D : List Nat} (h : OrdL t m D) : ∀ x ∈ D, x < m := by
  induction h with
  | nil => simp
  | step _ h2 ih =>
    intro x hx
    rcases List.mem_append.1 hx with h3 | h3
    · exact ih x h3
    · simp at h3; subst h3; exact h2.lt
theorem OrdL.ahead (hr : t.Right) (hs : Srt ltE t.es) {m : Nat} {D : List Nat} (h : OrdL t m D) : ∀ (i k y : Nat), D[i]? = some k → tau t k y → y ∈ D.take i := by
  induction h with
  | nil => simp
  | @step D k' _ h2 ih =>
    intro i k y hi hy
    by_cases hlt : i < D.length
    · rw [List.getElem?_append_left hlt] at hi
      rw [List.take_append_of_le_length (by omega)]
      exact ih i k y hi hy
    · have hl := (List.getElem?_eq_some_iff.1 hi).1
      simp at hl
      obtain rfl : i = D.length := by omega
      simp at hi
      subst hi
      rw [List.take_append_of_le_length (by omega), List.take_length]
      exact (Wt_zero hr hs).1 h2.all y hy
end
end Pl
end Go.Proofs.YtbaccmlfnbgehaaGreatDoor
