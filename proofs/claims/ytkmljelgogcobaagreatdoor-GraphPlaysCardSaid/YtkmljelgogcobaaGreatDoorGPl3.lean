/-
  Plain: which states are reachable; a walk over a list that grows.
  Plain: the one form of a list of class numbers.
-/
import Derived.Test.YtkmljelgogcobaaGreatDoorGPl1
namespace Go.Proofs.YtkmljelgogcobaaGreatDoor
namespace Pl

def ltI (a b : Int) : Bool := decide (a < b)
theorem stoI : STO ltI where
  irrefl a := by simp [ltI]
  trans a b c h1 h2 := by simp [ltI] at *; omega
  total a b := by simp [ltI]; omega

/-- x is reached from the start. -/
def Rch (s : Lts) (x : Int) : Prop := ∀ P : Int → Prop, P s.s0 → (∀ a l b, P a → (a, l, b) ∈ s.es → P b) → P x
theorem Rch.start (s : Lts) : Rch s s.s0 := fun _ h _ => h
theorem Rch.step {s : Lts} {a l b : Int} (h : Rch s a) (he : (a, l, b) ∈ s.es) : Rch s b := fun P h0 h1 => h1 a l b (h P h0 h1) he

theorem nodup_len {L : List Int} {n : Nat} (h : L.Nodup) (hr : ∀ x ∈ L, 0 ≤ x ∧ x < (n : Int)) : L.length ≤ n := by
  have : L ⊆ (List.range n).map Int.ofNat := by
    intro x hx
    have := hr x hx
    rw [List.mem_map]
    exact ⟨x.toNat, by rw [List.mem_range]; omega, by simp; omega⟩
  have := List.Nodup.length_le_of_subset h this
  simpa using this

/-- The states found, the first i of them looked over. -/
structure Bfs (s : Lts) (L : List Int) (i : Nat) : Prop where
  nd : L.Nodup
  rng : ∀ x ∈ L, 0 ≤ x ∧ x < s.st
  rch : ∀ x ∈ L, Rch s x
  s0 : s.s0 ∈ L
  done : ∀ k x, k < i → L[k]? = some x → ∀ y ∈ s.outs x, y.2 ∈ L

theorem Bfs.start {s : Lts} (h : s.Right) (h0 : s.st ≠ 0) : Bfs s [s.s0] 0 where
  nd := by simp
  rng x hx := by have := h.st0; simp at hx; subst hx; omega
  rch x hx := by simp at hx; subst hx; exact Rch.start s
  s0 := by simp
  done k x hk := by omega

theorem Bfs.len {s : Lts} {L : List Int} {i : Nat} (h : Bfs s L i) : L.length ≤ s.st.toNat :=
  nodup_len h.nd (fun x hx => by have := h.rng x hx; omega)

theorem Bfs.push {s : Lts} (hr : s.Right) {L : List Int} {i : Nat} {x : Int} {y : S} (h : Bfs s L i) (hx : L[i]? = some x) (hy : y ∈ s.outs x) (hn : y.2 ∉ L) : Bfs s (L ++ [y.2]) i where
  nd := by rw [List.nodup_append]; exact ⟨h.nd, by simp, by intro a ha b hb; simp at hb; subst hb; intro e; subst e; exact hn ha⟩
  rng z hz := by
    rcases List.mem_append.1 hz with h1 | h1
    · exact h.rng z h1
    · simp at h1; subst h1
      have := offB_false.1 (hr.edges _ (mem_outs.1 hy))
      exact ⟨this.2.2.2.2.1, this.2.2.2.2.2⟩
  rch z hz := by
    rcases List.mem_append.1 hz with h1 | h1
    · exact h.rch z h1
    · simp at h1; subst h1; exact (h.rch x (List.mem_of_getElem? hx)).step (mem_outs.1 hy)
  s0 := List.mem_append_left _ h.s0
  done k z hk hz w hw := by
    have hlt : k < L.length := by have := (List.getElem?_eq_some_iff.1 hx).1; omega
    rw [List.getElem?_append_left hlt] at hz
    exact List.mem_append_left _ (h.done k z hk hz w hw)

theorem Bfs.next {s : Lts} {L : List Int} {i : Nat} {x : Int} (h : Bfs s L i) (hx : L[i]? = some x) (ha : ∀ y ∈ s.outs x, y.2 ∈ L) : Bfs s L (i + 1) where
  nd := h.nd
  rng := h.rng
  rch := h.rch
  s0 := h.s0
  done k z hk hz := by
    by_cases hki : k = i
    · subst hki; rw [hx] at hz; simp at hz; subst hz; exact ha
    · exact h.done k z (by omega) hz

theorem Bfs.all {s : Lts} {L : List Int} (h : Bfs s L L.length) (x : Int) : x ∈ L ↔ Rch s x := by
  refine ⟨h.rch x, fun hr => hr (· ∈ L) h.s0 ?_⟩
  intro a l b ha he
  obtain ⟨k, hk, rfl⟩ := List.getElem_of_mem ha
  exact h.done k _ hk (List.getElem?_eq_getElem hk) (l, b) (mem_outs.2 he)

open Classical in
/-- The reachable states, rising. -/
noncomputable def reachL (s : Lts) : List Int := ((List.range s.st.toNat).map Int.ofNat).filter (fun x => decide (Rch s x))

theorem Rch.rng {s : Lts} (h : s.Right) (h0 : s.st ≠ 0) {x : Int} (hx : Rch s x) : 0 ≤ x ∧ x < s.st := by
  have := h.st0
  refine hx (fun x => 0 ≤ x ∧ x < s.st) (by omega) ?_
  intro a l b _ he
  have := offB_false.1 (h.edges _ he)
  exact ⟨this.2.2.2.2.1, this.2.2.2.2.2⟩

theorem mem_reachL {s : Lts} (h : s.Right) (h0 : s.st ≠ 0) {x : Int} : x ∈ reachL s ↔ Rch s x := by
  unfold reachL
  simp only [List.mem_filter, List.mem_map, List.mem_range, decide_eq_true_eq]
  constructor
  · rintro ⟨_, h⟩; exact h
  · intro hx
    have := hx.rng h h0
    exact ⟨⟨x.toNat, by omega, by simp; omega⟩, hx⟩

theorem reachL_srt (s : Lts) : Srt ltI (reachL s) := by
  classical
  refine List.Pairwise.filter _ ?_
  rw [List.pairwise_map]
  refine List.pairwise_lt_range.imp (fun {a b} h => ?_)
  simp [ltI]; omega

theorem reachL_nil {s : Lts} (h0 : s.st = 0) : reachL s = [] := by unfold reachL; rw [h0]; rfl

/-- A list that was sorted, of no repeats: the reachable states. -/
theorem reach_of {s : Lts} (h : s.Right) (h0 : s.st ≠ 0) {L : List Int} (hb : Bfs s L L.length) : L.mergeSort (fun x y => decide (x ≤ y)) = reachL s := by
  have hp := List.mergeSort_perm L (fun x y => decide (x ≤ y))
  refine srt_ext stoI _ _ ?_ (reachL_srt s) (fun x => ?_)
  · have hs := List.pairwise_mergeSort (le := fun (x y : Int) => decide (x ≤ y)) (fun a b c h1 h2 => by simp at *; omega) (fun a b => by simp; omega) L
    have hnd := hp.nodup_iff.2 hb.nd
    exact List.Pairwise.imp₂ (fun a b h1 h2 => by simp [ltI] at *; omega) hs hnd
  · rw [hp.mem_iff, hb.all, mem_reachL h h0]

theorem reachL_len {s : Lts} : (reachL s).length ≤ s.st.toNat := by
  unfold reachL
  refine Nat.le_trans (List.length_filter_le _ _) (by simp)

end Pl
end Go.Proofs.YtkmljelgogcobaaGreatDoor

namespace Go.Proofs.YtkmljelgogcobaaGreatDoor
namespace Pl

/-- What a list holds, each once, in the order in which it comes first. -/
def addN (s : List Int) (x : Int) : List Int := if x ∈ s then s else s ++ [x]
def dist (l : List Int) : List Int := l.foldl addN []

theorem dist_snoc (l : List Int) (x : Int) : dist (l ++ [x]) = addN (dist l) x := by simp [dist, List.foldl_append]

theorem mem_addN {s : List Int} {x y : Int} : y ∈ addN s x ↔ y ∈ s ∨ y = x := by
  unfold addN; split
  · constructor
    · exact Or.inl
    · rintro (h | rfl)
      · exact h
      · assumption
  · simp

theorem rev_ind {P : List Int → Prop} (h0 : P []) (h1 : ∀ l x, P l → P (l ++ [x])) (l : List Int) : P l := by
  have : ∀ m : List Int, P m.reverse := by
    intro m
    induction m with
    | nil => exact h0
    | cons x m ih => rw [List.reverse_cons]; exact h1 _ _ ih
  simpa using this l.reverse

theorem mem_dist {x : Int} (l : List Int) : x ∈ dist l ↔ x ∈ l := by
  induction l using rev_ind with
  | h0 => simp [dist]
  | h1 l y ih => rw [dist_snoc, mem_addN, ih]; simp

theorem nodup_dist (l : List Int) : (dist l).Nodup := by
  induction l using rev_ind with
  | h0 => simp [dist]
  | h1 l y ih =>
    rw [dist_snoc]; unfold addN; split
    · exact ih
    · rw [List.nodup_append]; exact ⟨ih, by simp, by intro a ha b hb e; simp at hb; subst hb; subst e; contradiction⟩

theorem dist_len (l : List Int) : (dist l).length ≤ l.length := by
  induction l using rev_ind with
  | h0 => simp [dist]
  | h1 l y ih => rw [dist_snoc]; unfold addN; split <;> simp <;> omega

/-- A longer list: no place turns. -/
theorem idx_addN {s : List Int} {x y : Int} (h : y ∈ s) : (addN s x).idxOf y = s.idxOf y := by
  unfold addN; split
  · rfl
  · rw [List.idxOf_append]; simp [h]
theorem idx_new {s : List Int} {x : Int} (h : x ∉ s) : (addN s x).idxOf x = s.length := by
  unfold addN; rw [if_neg h, List.idxOf_append]; simp [h]

theorem idx_append (l m : List Int) {y : Int} (h : y ∈ l) : (dist (l ++ m)).idxOf y = (dist l).idxOf y := by
  induction m using rev_ind with
  | h0 => simp
  | h1 m x ih => rw [← List.append_assoc, dist_snoc, idx_addN ((mem_dist _).2 (by simp [h])), ih]

def canon (l : List Int) : List Int := l.map (fun x => ((dist l).idxOf x : Int))

theorem canon_len (l : List Int) : (canon l).length = l.length := by simp [canon]

theorem canon_get (l : List Int) (i : Nat) : (canon l)[i]? = l[i]?.map (fun x => ((dist l).idxOf x : Int)) := by simp [canon]

theorem idx_inj {l : List Int} {x y : Int} (hx : x ∈ l) (hy : y ∈ l) (h : l.idxOf x = l.idxOf y) : x = y := by
  have h1 := List.getElem_idxOf (List.idxOf_lt_length_of_mem hx)
  have h2 := List.getElem_idxOf (List.idxOf_lt_length_of_mem hy)
  rw [← h1, ← h2]
  congr 1

theorem addN_map {f : Int → Int} {s : List Int} {x : Int} (hf : ∀ y ∈ s, f y = f x → y = x) : addN (s.map f) (f x) = (addN s x).map f := by
  unfold addN
  by_cases h : x ∈ s
  · rw [if_pos h, if_pos (List.mem_map_of_mem h)]
  · rw [if_neg h, if_neg]
    · simp
    · intro hm; obtain ⟨y, hy, e⟩ := List.mem_map.1 hm; exact h (hf y hy e ▸ hy)

theorem dist_map {f : Int → Int} (l : List Int) (hf : ∀ x ∈ l, ∀ y ∈ l, f x = f y → x = y) : dist (l.map f) = (dist l).map f := by
  induction l using rev_ind with
  | h0 => simp [dist]
  | h1 l y ih =>
    rw [List.map_append, List.map_cons, List.map_nil, dist_snoc, ih (fun a ha b hb => hf a (by simp [ha]) b (by simp [hb])), dist_snoc]
    exact addN_map (fun z hz => hf z (by simp [(mem_dist l).1 hz]) y (by simp))

theorem idx_map {f : Int → Int} {x : Int} : ∀ l : List Int, (∀ y ∈ l, f y = f x → y = x) → (l.map f).idxOf (f x) = l.idxOf x
  | [], _ => rfl
  | y :: l, h => by
    have ih := idx_map l (fun z hz => h z (by simp [hz]))
    rw [List.map_cons, List.idxOf_cons, List.idxOf_cons]
    by_cases e : y = x
    · subst e; simp
    · have : ¬ f y = f x := fun e2 => e (h y (by simp) e2)
      simp only [beq_iff_eq, e, this, if_false, ih, cond_eq_ite]

theorem canon_map {f : Int → Int} {l : List Int} (hf : ∀ x ∈ l, ∀ y ∈ l, f x = f y → x = y) : canon (l.map f) = canon l := by
  unfold canon
  rw [List.map_map, dist_map l hf]
  apply List.map_congr_left
  intro x hx
  simp only [Function.comp]
  rw [idx_map _ (fun y hy => hf y ((mem_dist l).1 hy) x hx)]

theorem canon_canon (l : List Int) : canon (canon l) = canon l := by
  conv => lhs; arg 1; unfold canon
  exact canon_map (fun x hx y hy h => idx_inj ((mem_dist l).2 hx) ((mem_dist l).2 hy) (Int.ofNat.inj h))

theorem canon_eq_iff {l : List Int} {i k : Nat} {x y : Int} (hx : l[i]? = some x) (hy : l[k]? = some y) : ((dist l).idxOf x : Int) = ((dist l).idxOf y : Int) ↔ x = y := by
  constructor
  · intro h; exact idx_inj ((mem_dist l).2 (List.mem_of_getElem? hx)) ((mem_dist l).2 (List.mem_of_getElem? hy)) (Int.ofNat.inj h)
  · rintro rfl; rfl

/-- Do two lists say the same together? -/
def SameT (a b : List Int) : Prop := ∀ (i k : Nat) (x y x' y' : Int), k < i → a[i]? = some x → a[k]? = some y → b[i]? = some x' → b[k]? = some y' → (x = y ↔ x' = y')

theorem sameT_canon {a b : List Int} (hl : a.length = b.length) : canon a = canon b ↔ SameT a b := by
  constructor
  · intro h i k x y x' y' _ hx hy hx' hy'
    have e1 := congrArg (fun l => l[i]?) h
    have e2 := congrArg (fun l => l[k]?) h
    simp only [canon_get, hx, hy, hx', hy', Option.map_some, Option.some.injEq] at e1 e2
    rw [← canon_eq_iff hx hy, ← canon_eq_iff hx' hy', e1, e2]
  · intro h
    have hs : ∀ (i k : Nat) (x y x' y' : Int), a[i]? = some x → a[k]? = some y → b[i]? = some x' → b[k]? = some y' → (x = y ↔ x' = y') := by
      intro i k x y x' y' hx hy hx' hy'
      rcases Nat.lt_trichotomy k i with hlt | rfl | hlt
      · exact h i k x y x' y' hlt hx hy hx' hy'
      · rw [hx] at hy; rw [hx'] at hy'; simp at hy hy'; simp [hy, hy']
      · have := h k i y x y' x' hlt hy hx hy' hx'
        rw [eq_comm, this, eq_comm]
    have hb : b = a.map (fun x => b.getD (a.idxOf x) 0) := by
      apply List.ext_getElem?
      intro i
      by_cases hi : i < a.length
      · have hx := List.getElem?_eq_getElem hi
        have hx' := List.getElem?_eq_getElem (show i < b.length by omega)
        have hm : a[i] ∈ a := List.getElem_mem hi
        have hlt := List.idxOf_lt_length_of_mem hm
        have hj : a[a.idxOf a[i]]? = some a[i] := by rw [List.getElem?_eq_getElem hlt, List.getElem_idxOf hlt]
        have hj' := List.getElem?_eq_getElem (show a.idxOf a[i] < b.length by omega)
        rw [List.getElem?_map, hx, hx']
        simp only [Option.map_some, Option.some.injEq]
        rw [List.getD_eq_getElem?_getD, hj']
        simpa using (hs i _ _ _ _ _ hx hj hx' hj').1 rfl
      · rw [List.getElem?_eq_none (by omega), List.getElem?_eq_none (by simp; omega)]
    rw [hb]
    refine (canon_map ?_).symm
    intro x hx y hy he
    obtain ⟨i, hi, rfl⟩ := List.getElem_of_mem hx
    obtain ⟨k, hk, rfl⟩ := List.getElem_of_mem hy
    have hm1 := List.idxOf_lt_length_of_mem hx
    have hm2 := List.idxOf_lt_length_of_mem hy
    have hj1 : a[a.idxOf a[i]]? = some a[i] := by rw [List.getElem?_eq_getElem hm1, List.getElem_idxOf hm1]
    have hj2 : a[a.idxOf a[k]]? = some a[k] := by rw [List.getElem?_eq_getElem hm2, List.getElem_idxOf hm2]
    rw [List.getD_eq_getElem?_getD, List.getD_eq_getElem?_getD, List.getElem?_eq_getElem (show a.idxOf a[i] < b.length by omega), List.getElem?_eq_getElem (show a.idxOf a[k] < b.length by omega)] at he
    exact (hs _ _ _ _ _ _ hj1 hj2 (List.getElem?_eq_getElem (by omega)) (List.getElem?_eq_getElem (by omega))).2 (by simpa using he)

end Pl
end Go.Proofs.YtkmljelgogcobaaGreatDoor
