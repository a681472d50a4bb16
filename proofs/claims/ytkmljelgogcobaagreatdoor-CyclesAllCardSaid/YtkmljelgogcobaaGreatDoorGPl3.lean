/-
  Plain: which states are reachable; a walk over a list that grows.
  Plain: the one form of a list of class numbers.
  Plain: the system of the reachable states alone.
  Plain: the end of the walk over cycles of silent steps (Tarjan): the classes; what canon tells of them.
  Plain: the collapsed system; it has no cycle of silent steps and is its own collapse.
  Plain: the order in which what silent steps lead to stands ahead.
  Plain: the one form, list by list: its beginnings, how it is told from others.
  Plain: the document's numbering of the cycles, state by state; the order told from it.
  Plain: the silent steps alone, from a state on.
  Plain: a system with its edges turned round.
  The errors: the package-level ones in memory; fault.New; system.offends, system.Check.
  errors.Is over faults: a fault of a layer wraps a package-level error; api.Code.
  system.rows.row, and the graph in memory: Each, Back, own, States, Labels, Start.
  The graph in memory: Each, Back, own, States, Labels, Start; Out, In, By, From.
  tauscc: the world of a walk over cycles of silent steps: its struct, four rows of numbers and marks, two stacks.
-/
import Derived.Test.YtkmljelgogcobaaGreatDoorGPl1
import Derived.Test.YtkmljelgogcobaaGreatDoorPl8
import Derived.Test.YtkmljelgogcobaaGreatDoorGBase
import Derived.Outline
import Derived.LaidEql
import Derived.Stop.Asserts
import Derived.RowKitTokens
import Derived.Deep.QuietTactic
import Derived.BigQuiet
import Derived.IntWalk
import Derived.Test.YtkmljelgogcobaaGreatDoorGClone
import Derived.Test.YtkmljelgogcobaaGreatDoorGCompact
import Derived.Test.YtkmljelgogcobaaGreatDoorGRows2
import Derived.Deep.RegionHeld3
import Derived.Deep.Cut
import Derived.Deep.CutRange
import Derived.Deep.DeepMust
namespace Go.Proofs.YtkmljelgogcobaaGreatDoor
namespace Pl

def ltI (a b : Int) : Bool := decide (a < b)
theorem stoI : STO ltI where
  irrefl a := by simp [ltI]
  trans a b c h1 h2 := by simp [ltI] at *; omega
  total a b := by simp [ltI]; omega

/-- x is reached from the start. -/
def Rch (s : Lts) (x : Int) : Prop := ∀ P : Int → Prop, P s.s0 → (∀ a l b, P a → (a, l, b) ∈ s.es → P b) → P x
theorem Rch.start (s : Lts) : Rch s s.s0 := fun _ h _ => h
theorem Rch.step {s : Lts} {a l b : Int} (h : Rch s a) (he : (a, l, b) ∈ s.es) : Rch s b := fun P h0 h1 => h1 a l b (h P h0 h1) he

theorem nodup_len {L : List Int} {n : Nat} (h : L.Nodup) (hr : ∀ x ∈ L, 0 ≤ x ∧ x < (n : Int)) : L.length ≤ n := by
  have : L ⊆ (List.range n).map Int.ofNat := by
    intro x hx
    have := hr x hx
    rw [List.mem_map]
    exact ⟨x.toNat, by rw [List.mem_range]; omega, by simp; omega⟩
  have := List.Nodup.length_le_of_subset h this
  simpa using this

/-- The states found, the first i of them looked over. -/
structure Bfs (s : Lts) (L : List Int) (i : Nat) : Prop where
  nd : L.Nodup
  rng : ∀ x ∈ L, 0 ≤ x ∧ x < s.st
  rch : ∀ x ∈ L, Rch s x
  s0 : s.s0 ∈ L
  done : ∀ k x, k < i → L[k]? = some x → ∀ y ∈ s.outs x, y.2 ∈ L

theorem Bfs.start {s : Lts} (h : s.Right) (h0 : s.st ≠ 0) : Bfs s [s.s0] 0 where
  nd := by simp
  rng x hx := by have := h.st0; simp at hx; subst hx; omega
  rch x hx := by simp at hx; subst hx; exact Rch.start s
  s0 := by simp
  done k x hk := by omega

theorem Bfs.len {s : Lts} {L : List Int} {i : Nat} (h : Bfs s L i) : L.length ≤ s.st.toNat :=
  nodup_len h.nd (fun x hx => by have := h.rng x hx; omega)

theorem Bfs.push {s : Lts} (hr : s.Right) {L : List Int} {i : Nat} {x : Int} {y : S} (h : Bfs s L i) (hx : L[i]? = some x) (hy : y ∈ s.outs x) (hn : y.2 ∉ L) : Bfs s (L ++ [y.2]) i where
  nd := by rw [List.nodup_append]; exact ⟨h.nd, by simp, by intro a ha b hb; simp at hb; subst hb; intro e; subst e; exact hn ha⟩
  rng z hz := by
    rcases List.mem_append.1 hz with h1 | h1
    · exact h.rng z h1
    · simp at h1; subst h1
      have := offB_false.1 (hr.edges _ (mem_outs.1 hy))
      exact ⟨this.2.2.2.2.1, this.2.2.2.2.2⟩
  rch z hz := by
    rcases List.mem_append.1 hz with h1 | h1
    · exact h.rch z h1
    · simp at h1; subst h1; exact (h.rch x (List.mem_of_getElem? hx)).step (mem_outs.1 hy)
  s0 := List.mem_append_left _ h.s0
  done k z hk hz w hw := by
    have hlt : k < L.length := by have := (List.getElem?_eq_some_iff.1 hx).1; omega
    rw [List.getElem?_append_left hlt] at hz
    exact List.mem_append_left _ (h.done k z hk hz w hw)

theorem Bfs.next {s : Lts} {L : List Int} {i : Nat} {x : Int} (h : Bfs s L i) (hx : L[i]? = some x) (ha : ∀ y ∈ s.outs x, y.2 ∈ L) : Bfs s L (i + 1) where
  nd := h.nd
  rng := h.rng
  rch := h.rch
  s0 := h.s0
  done k z hk hz := by
    by_cases hki : k = i
    · subst hki; rw [hx] at hz; simp at hz; subst hz; exact ha
    · exact h.done k z (by omega) hz

theorem Bfs.all {s : Lts} {L : List Int} (h : Bfs s L L.length) (x : Int) : x ∈ L ↔ Rch s x := by
  refine ⟨h.rch x, fun hr => hr (· ∈ L) h.s0 ?_⟩
  intro a l b ha he
  obtain ⟨k, hk, rfl⟩ := List.getElem_of_mem ha
  exact h.done k _ hk (List.getElem?_eq_getElem hk) (l, b) (mem_outs.2 he)

open Classical in
/-- The reachable states, rising. -/
noncomputable def reachL (s : Lts) : List Int := ((List.range s.st.toNat).map Int.ofNat).filter (fun x => decide (Rch s x))

theorem Rch.rng {s : Lts} (h : s.Right) (h0 : s.st ≠ 0) {x : Int} (hx : Rch s x) : 0 ≤ x ∧ x < s.st := by
  have := h.st0
  refine hx (fun x => 0 ≤ x ∧ x < s.st) (by omega) ?_
  intro a l b _ he
  have := offB_false.1 (h.edges _ he)
  exact ⟨this.2.2.2.2.1, this.2.2.2.2.2⟩

theorem mem_reachL {s : Lts} (h : s.Right) (h0 : s.st ≠ 0) {x : Int} : x ∈ reachL s ↔ Rch s x := by
  unfold reachL
  simp only [List.mem_filter, List.mem_map, List.mem_range, decide_eq_true_eq]
  constructor
  · rintro ⟨_, h⟩; exact h
  · intro hx
    have := hx.rng h h0
    exact ⟨⟨x.toNat, by omega, by simp; omega⟩, hx⟩

theorem reachL_srt (s : Lts) : Srt ltI (reachL s) := by
  classical
  refine List.Pairwise.filter _ ?_
  rw [List.pairwise_map]
  refine List.pairwise_lt_range.imp (fun {a b} h => ?_)
  simp [ltI]; omega

theorem reachL_nil {s : Lts} (h0 : s.st = 0) : reachL s = [] := by unfold reachL; rw [h0]; rfl

/-- A list that was sorted, of no repeats: the reachable states. -/
theorem reach_of {s : Lts} (h : s.Right) (h0 : s.st ≠ 0) {L : List Int} (hb : Bfs s L L.length) : L.mergeSort (fun x y => decide (x ≤ y)) = reachL s := by
  have hp := List.mergeSort_perm L (fun x y => decide (x ≤ y))
  refine srt_ext stoI _ _ ?_ (reachL_srt s) (fun x => ?_)
  · have hs := List.pairwise_mergeSort (le := fun (x y : Int) => decide (x ≤ y)) (fun a b c h1 h2 => by simp at *; omega) (fun a b => by simp; omega) L
    have hnd := hp.nodup_iff.2 hb.nd
    exact List.Pairwise.imp₂ (fun a b h1 h2 => by simp [ltI] at *; omega) hs hnd
  · rw [hp.mem_iff, hb.all, mem_reachL h h0]

theorem reachL_len {s : Lts} : (reachL s).length ≤ s.st.toNat := by
  unfold reachL
  refine Nat.le_trans (List.length_filter_le _ _) (by simp)

end Pl
end Go.Proofs.YtkmljelgogcobaaGreatDoor

namespace Go.Proofs.YtkmljelgogcobaaGreatDoor
namespace Pl

/-- What a list holds, each once, in the order in which it comes first. -/
def addN (s : List Int) (x : Int) : List Int := if x ∈ s then s else s ++ [x]
def dist (l : List Int) : List Int := l.foldl addN []

theorem dist_snoc (l : List Int) (x : Int) : dist (l ++ [x]) = addN (dist l) x := by simp [dist, List.foldl_append]

theorem mem_addN {s : List Int} {x y : Int} : y ∈ addN s x ↔ y ∈ s ∨ y = x := by
  unfold addN; split
  · constructor
    · exact Or.inl
    · rintro (h | rfl)
      · exact h
      · assumption
  · simp

theorem rev_ind {P : List Int → Prop} (h0 : P []) (h1 : ∀ l x, P l → P (l ++ [x])) (l : List Int) : P l := by
  have : ∀ m : List Int, P m.reverse := by
    intro m
    induction m with
    | nil => exact h0
    | cons x m ih => rw [List.reverse_cons]; exact h1 _ _ ih
  simpa using this l.reverse

theorem mem_dist {x : Int} (l : List Int) : x ∈ dist l ↔ x ∈ l := by
  induction l using rev_ind with
  | h0 => simp [dist]
  | h1 l y ih => rw [dist_snoc, mem_addN, ih]; simp

theorem nodup_dist (l : List Int) : (dist l).Nodup := by
  induction l using rev_ind with
  | h0 => simp [dist]
  | h1 l y ih =>
    rw [dist_snoc]; unfold addN; split
    · exact ih
    · rw [List.nodup_append]; exact ⟨ih, by simp, by intro a ha b hb e; simp at hb; subst hb; subst e; contradiction⟩

theorem dist_len (l : List Int) : (dist l).length ≤ l.length := by
  induction l using rev_ind with
  | h0 => simp [dist]
  | h1 l y ih => rw [dist_snoc]; unfold addN; split <;> simp <;> omega

/-- A longer list: no place turns. -/
theorem idx_addN {s : List Int} {x y : Int} (h : y ∈ s) : (addN s x).idxOf y = s.idxOf y := by
  unfold addN; split
  · rfl
  · rw [List.idxOf_append]; simp [h]
theorem idx_new {s : List Int} {x : Int} (h : x ∉ s) : (addN s x).idxOf x = s.length := by
  unfold addN; rw [if_neg h, List.idxOf_append]; simp [h]

theorem idx_append (l m : List Int) {y : Int} (h : y ∈ l) : (dist (l ++ m)).idxOf y = (dist l).idxOf y := by
  induction m using rev_ind with
  | h0 => simp
  | h1 m x ih => rw [← List.append_assoc, dist_snoc, idx_addN ((mem_dist _).2 (by simp [h])), ih]

def canon (l : List Int) : List Int := l.map (fun x => ((dist l).idxOf x : Int))

theorem canon_len (l : List Int) : (canon l).length = l.length := by simp [canon]

theorem canon_get (l : List Int) (i : Nat) : (canon l)[i]? = l[i]?.map (fun x => ((dist l).idxOf x : Int)) := by simp [canon]

theorem idx_inj {l : List Int} {x y : Int} (hx : x ∈ l) (hy : y ∈ l) (h : l.idxOf x = l.idxOf y) : x = y := by
  have h1 := List.getElem_idxOf (List.idxOf_lt_length_of_mem hx)
  have h2 := List.getElem_idxOf (List.idxOf_lt_length_of_mem hy)
  rw [← h1, ← h2]
  congr 1

theorem addN_map {f : Int → Int} {s : List Int} {x : Int} (hf : ∀ y ∈ s, f y = f x → y = x) : addN (s.map f) (f x) = (addN s x).map f := by
  unfold addN
  by_cases h : x ∈ s
  · rw [if_pos h, if_pos (List.mem_map_of_mem h)]
  · rw [if_neg h, if_neg]
    · simp
    · intro hm; obtain ⟨y, hy, e⟩ := List.mem_map.1 hm; exact h (hf y hy e ▸ hy)

theorem dist_map {f : Int → Int} (l : List Int) (hf : ∀ x ∈ l, ∀ y ∈ l, f x = f y → x = y) : dist (l.map f) = (dist l).map f := by
  induction l using rev_ind with
  | h0 => simp [dist]
  | h1 l y ih =>
    rw [List.map_append, List.map_cons, List.map_nil, dist_snoc, ih (fun a ha b hb => hf a (by simp [ha]) b (by simp [hb])), dist_snoc]
    exact addN_map (fun z hz => hf z (by simp [(mem_dist l).1 hz]) y (by simp))

theorem idx_map {f : Int → Int} {x : Int} : ∀ l : List Int, (∀ y ∈ l, f y = f x → y = x) → (l.map f).idxOf (f x) = l.idxOf x
  | [], _ => rfl
  | y :: l, h => by
    have ih := idx_map l (fun z hz => h z (by simp [hz]))
    rw [List.map_cons, List.idxOf_cons, List.idxOf_cons]
    by_cases e : y = x
    · subst e; simp
    · have : ¬ f y = f x := fun e2 => e (h y (by simp) e2)
      simp only [beq_iff_eq, e, this, if_false, ih, cond_eq_ite]

theorem canon_map {f : Int → Int} {l : List Int} (hf : ∀ x ∈ l, ∀ y ∈ l, f x = f y → x = y) : canon (l.map f) = canon l := by
  unfold canon
  rw [List.map_map, dist_map l hf]
  apply List.map_congr_left
  intro x hx
  simp only [Function.comp]
  rw [idx_map _ (fun y hy => hf y ((mem_dist l).1 hy) x hx)]

theorem canon_canon (l : List Int) : canon (canon l) = canon l := by
  conv => lhs; arg 1; unfold canon
  exact canon_map (fun x hx y hy h => idx_inj ((mem_dist l).2 hx) ((mem_dist l).2 hy) (Int.ofNat.inj h))

theorem canon_eq_iff {l : List Int} {i k : Nat} {x y : Int} (hx : l[i]? = some x) (hy : l[k]? = some y) : ((dist l).idxOf x : Int) = ((dist l).idxOf y : Int) ↔ x = y := by
  constructor
  · intro h; exact idx_inj ((mem_dist l).2 (List.mem_of_getElem? hx)) ((mem_dist l).2 (List.mem_of_getElem? hy)) (Int.ofNat.inj h)
  · rintro rfl; rfl

/-- Do two lists say the same together? -/
def SameT (a b : List Int) : Prop := ∀ (i k : Nat) (x y x' y' : Int), k < i → a[i]? = some x → a[k]? = some y → b[i]? = some x' → b[k]? = some y' → (x = y ↔ x' = y')

theorem sameT_canon {a b : List Int} (hl : a.length = b.length) : canon a = canon b ↔ SameT a b := by
  constructor
  · intro h i k x y x' y' _ hx hy hx' hy'
    have e1 := congrArg (fun l => l[i]?) h
    have e2 := congrArg (fun l => l[k]?) h
    simp only [canon_get, hx, hy, hx', hy', Option.map_some, Option.some.injEq] at e1 e2
    rw [← canon_eq_iff hx hy, ← canon_eq_iff hx' hy', e1, e2]
  · intro h
    have hs : ∀ (i k : Nat) (x y x' y' : Int), a[i]? = some x → a[k]? = some y → b[i]? = some x' → b[k]? = some y' → (x = y ↔ x' = y') := by
      intro i k x y x' y' hx hy hx' hy'
      rcases Nat.lt_trichotomy k i with hlt | rfl | hlt
      · exact h i k x y x' y' hlt hx hy hx' hy'
      · rw [hx] at hy; rw [hx'] at hy'; simp at hy hy'; simp [hy, hy']
      · have := h k i y x y' x' hlt hy hx hy' hx'
        rw [eq_comm, this, eq_comm]
    have hb : b = a.map (fun x => b.getD (a.idxOf x) 0) := by
      apply List.ext_getElem?
      intro i
      by_cases hi : i < a.length
      · have hx := List.getElem?_eq_getElem hi
        have hx' := List.getElem?_eq_getElem (show i < b.length by omega)
        have hm : a[i] ∈ a := List.getElem_mem hi
        have hlt := List.idxOf_lt_length_of_mem hm
        have hj : a[a.idxOf a[i]]? = some a[i] := by rw [List.getElem?_eq_getElem hlt, List.getElem_idxOf hlt]
        have hj' := List.getElem?_eq_getElem (show a.idxOf a[i] < b.length by omega)
        rw [List.getElem?_map, hx, hx']
        simp only [Option.map_some, Option.some.injEq]
        rw [List.getD_eq_getElem?_getD, hj']
        simpa using (hs i _ _ _ _ _ hx hj hx' hj').1 rfl
      · rw [List.getElem?_eq_none (by omega), List.getElem?_eq_none (by simp; omega)]
    rw [hb]
    refine (canon_map ?_).symm
    intro x hx y hy he
    obtain ⟨i, hi, rfl⟩ := List.getElem_of_mem hx
    obtain ⟨k, hk, rfl⟩ := List.getElem_of_mem hy
    have hm1 := List.idxOf_lt_length_of_mem hx
    have hm2 := List.idxOf_lt_length_of_mem hy
    have hj1 : a[a.idxOf a[i]]? = some a[i] := by rw [List.getElem?_eq_getElem hm1, List.getElem_idxOf hm1]
    have hj2 : a[a.idxOf a[k]]? = some a[k] := by rw [List.getElem?_eq_getElem hm2, List.getElem_idxOf hm2]
    rw [List.getD_eq_getElem?_getD, List.getD_eq_getElem?_getD, List.getElem?_eq_getElem (show a.idxOf a[i] < b.length by omega), List.getElem?_eq_getElem (show a.idxOf a[k] < b.length by omega)] at he
    exact (hs _ _ _ _ _ _ hj1 hj2 (List.getElem?_eq_getElem (by omega)) (List.getElem?_eq_getElem (by omega))).2 (by simpa using he)

end Pl
end Go.Proofs.YtkmljelgogcobaaGreatDoor

namespace Go.Proofs.YtkmljelgogcobaaGreatDoor
namespace Pl

/-- How many of a list are below a number. -/
def cnt (L : List Int) (k : Int) : Nat := (L.filter (fun x => decide (x < k))).length

theorem cnt_idx : ∀ (L : List Int), Srt ltI L → ∀ x ∈ L, L.idxOf x = cnt L x
  | [], _, x, h => by simp at h
  | y :: L, hs, x, h => by
    have hy := List.pairwise_cons.1 hs
    unfold cnt
    by_cases e : y = x
    · subst e
      have hn : L.filter (fun z => decide (z < y)) = [] := by
        rw [List.filter_eq_nil_iff]; intro z hz
        have := hy.1 z hz; simp [ltI] at this; simp; omega
      first | simp [hn] | simp [List.filter_cons, hn]
    · have hx : x ∈ L := by simpa [fun h => e (Eq.symm h), Ne.symm e] using h
      have hlt : y < x := by have := hy.1 x hx; simpa [ltI] using this
      have ih := cnt_idx L hy.2 x hx
      unfold cnt at ih
      rw [List.idxOf_cons]
      have hb : (y == x) = false := by simp [e]
      simp only [hb, List.filter_cons, decide_eq_true hlt, if_true, List.length_cons, cond_false]
      omega

theorem cnt_zero {L : List Int} (h : ∀ x ∈ L, 0 ≤ x) : cnt L 0 = 0 := by
  unfold cnt
  rw [List.length_eq_zero_iff, List.filter_eq_nil_iff]
  intro x hx; have := h x hx; simp; omega
theorem cnt_all {L : List Int} {n : Int} (h : ∀ x ∈ L, x < n) : cnt L n = L.length := by
  unfold cnt
  rw [List.filter_eq_self.2]
  intro x hx; have := h x hx; simp; omega
theorem cnt_succ : ∀ {L : List Int}, Srt ltI L → ∀ k : Int, cnt L (k + 1) = cnt L k + (if k ∈ L then 1 else 0)
  | [], _, k => by simp [cnt]
  | y :: L, hs, k => by
    have hy := List.pairwise_cons.1 hs
    have ih := cnt_succ hy.2 k
    unfold cnt at *
    rcases Int.lt_trichotomy y k with h | h | h
    · have b1 : decide (y < k + 1) = true := by simp; omega
      have b2 : decide (y < k) = true := by simp; omega
      simp only [List.filter_cons, b1, b2, if_true, List.length_cons, ih, List.mem_cons]
      have : k ≠ y := by omega
      simp [this]; omega
    · subst h
      have hn : y ∉ L := fun h => by have := hy.1 y h; simp [ltI] at this
      have b1 : decide (y < y + 1) = true := by simp; omega
      have b2 : decide (y < y) = false := by simp
      simp only [hn, if_false, Nat.add_zero] at ih
      first | simp [b1, ih] | simp [List.filter_cons, b1, b2, ih]
    · have b1 : decide (y < k + 1) = false := by simp; omega
      have b2 : decide (y < k) = false := by simp; omega
      have hn : k ∉ L := fun hk => by have := hy.1 k hk; simp [ltI] at this; omega
      simp only [hn, if_false, Nat.add_zero] at ih
      have : k ≠ y := by omega
      first | simp [b1, b2, ih, hn, this] | simp [List.filter_cons, b1, b2, ih, hn, this]

theorem srt_nodup {L : List Int} (h : Srt ltI L) : L.Nodup := h.imp (fun {a b} h => by simp [ltI] at h; omega)

theorem idx_get : ∀ {L : List Int}, L.Nodup → ∀ {i : Nat} {x : Int}, L[i]? = some x → L.idxOf x = i
  | [], _, i, x, h => by simp at h
  | y :: L, hn, 0, x, h => by simp at h; subst h; simp
  | y :: L, hn, i + 1, x, h => by
    have hy := List.nodup_cons.1 hn
    have hx : L[i]? = some x := by simpa using h
    have hb : (y == x) = false := by
      simp; rintro rfl; exact hy.1 (List.mem_of_getElem? hx)
    rw [List.idxOf_cons, hb, idx_get hy.2 hx]; rfl

/-- The new number of a state. -/
noncomputable def toOf (s : Lts) (x : Int) : Int := if x ∈ reachL s then ((reachL s).idxOf x : Int) else -1
noncomputable def toL (s : Lts) : List Int := (List.range s.st.toNat).map (fun (i : Nat) => toOf s (i : Int))
noncomputable def cutE (s : Lts) : List E := (s.es.filter (fun x => decide (0 ≤ toOf s x.1))).map (fun x => (toOf s x.1, x.2.1, toOf s x.2.2))
noncomputable def cut (s : Lts) : Lts := ⟨(reachL s).length, s.lb, if (reachL s).length = 0 then 0 else toOf s s.s0, cutE s⟩

theorem toL_len (s : Lts) : (toL s).length = s.st.toNat := by simp [toL]
theorem toL_get {s : Lts} {i : Nat} (h : i < s.st.toNat) : (toL s)[i]? = some (toOf s (i : Int)) := by simp [toL, h]
theorem toOf_in {s : Lts} {x : Int} (h : x ∈ reachL s) : toOf s x = ((reachL s).idxOf x : Int) ∧ 0 ≤ toOf s x ∧ toOf s x < (reachL s).length := by
  have := List.idxOf_lt_length_of_mem h
  unfold toOf; rw [if_pos h]; omega
theorem toOf_out {s : Lts} {x : Int} (h : x ∉ reachL s) : toOf s x = -1 := by unfold toOf; rw [if_neg h]
theorem toOf_iff {s : Lts} {x : Int} : 0 ≤ toOf s x ↔ x ∈ reachL s := by
  by_cases h : x ∈ reachL s
  · simp [h, (toOf_in h).2.1]
  · rw [toOf_out h]; simp [h]
theorem toOf_get {s : Lts} {i : Nat} {x : Int} (h : (reachL s)[i]? = some x) : toOf s x = i := by
  rw [(toOf_in (List.mem_of_getElem? h)).1, idx_get (srt_nodup (reachL_srt s)) h]
theorem toOf_cnt {s : Lts} {x : Int} (h : x ∈ reachL s) : toOf s x = (cnt (reachL s) x : Int) := by
  rw [(toOf_in h).1, cnt_idx _ (reachL_srt s) _ h]

theorem reachL_rng {s : Lts} {x : Int} (h : x ∈ reachL s) : 0 ≤ x ∧ x < s.st := by
  unfold reachL at h
  obtain ⟨h1, _⟩ := List.mem_filter.1 h
  obtain ⟨i, hi, rfl⟩ := List.mem_map.1 h1
  rw [List.mem_range] at hi
  show 0 ≤ (i : Int) ∧ (i : Int) < s.st
  omega
theorem reachL_step {s : Lts} (hr : s.Right) {x : E} (hx : x ∈ s.es) (h : x.1 ∈ reachL s) : x.2.2 ∈ reachL s := by
  have h1 := offB_false.1 (hr.edges x hx)
  have h0 : s.st ≠ 0 := by omega
  rw [mem_reachL hr h0] at *
  exact h.step (l := x.2.1) hx

theorem mem_cutE {s : Lts} {y : E} : y ∈ cutE s ↔ ∃ x ∈ s.es, x.1 ∈ reachL s ∧ y = (toOf s x.1, x.2.1, toOf s x.2.2) := by
  unfold cutE
  simp only [List.mem_map, List.mem_filter, decide_eq_true_eq, toOf_iff]
  constructor
  · rintro ⟨x, ⟨h1, h2⟩, rfl⟩; exact ⟨x, h1, h2, rfl⟩
  · rintro ⟨x, h1, h2, rfl⟩; exact ⟨x, ⟨h1, h2⟩, rfl⟩

theorem start_in {s : Lts} (hr : s.Right) (h : s.st ≠ 0) : s.s0 ∈ reachL s := (mem_reachL hr h).2 (Rch.start s)

theorem cutE_len (s : Lts) : (cutE s).length ≤ s.es.length := by
  unfold cutE; rw [List.length_map]; exact List.length_filter_le _ _

theorem cut_right {s : Lts} (hr : s.Right) : (cut s).Right := by
  have h0 := hr.st0
  have hl := reachL_len (s := s)
  refine ⟨?_, fun y hy => ?_⟩
  · have h2 := cutE_len s
    have h3 : 0 ≤ (cut s).s0 ∧ ((cut s).s0 = 0 ∨ (cut s).s0 < (reachL s).length) := by
      simp only [cut]
      split
      · simp
      · rename_i hne
        have hst : s.st ≠ 0 := fun e => hne (by rw [reachL_nil e]; rfl)
        have := toOf_in (start_in hr hst)
        omega
    unfold HeadBad
    simp only [cut] at *
    omega
  · obtain ⟨x, hx, hxr, rfl⟩ := mem_cutE.1 hy
    have h1 := toOf_in hxr
    have h2 := toOf_in (reachL_step hr hx hxr)
    have h3 := offB_false.1 (hr.edges x hx)
    rw [offB_false]
    simp only [cut]
    omega

theorem cut_rch {s : Lts} (hr : s.Right) (h0 : s.st ≠ 0) {x : Int} (h : Rch s x) : Rch (cut s) (toOf s x) := by
  have hs := start_in hr h0
  have hne : (reachL s).length ≠ 0 := fun e => by rw [List.eq_nil_of_length_eq_zero e] at hs; simp at hs
  have := h (fun x => Rch s x ∧ Rch (cut s) (toOf s x)) ⟨Rch.start s, by
    have := Rch.start (cut s)
    simp only [cut, hne, if_false] at this ⊢
    exact this⟩ (by
    rintro a l b ⟨h1, h2⟩ he
    refine ⟨h1.step he, h2.step (l := l) ?_⟩
    exact mem_cutE.2 ⟨(a, l, b), he, (mem_reachL hr h0).2 h1, rfl⟩)
  exact this.2

theorem rch_norm {s : Lts} {x : Int} (h : Rch s x) : Rch s.norm x :=
  fun P h0 h1 => h P h0 (fun a l b ha he => h1 a l b ha ((mem_nf stoE _ s.es).2 he))
theorem rch_of_norm {s : Lts} {x : Int} (h : Rch s.norm x) : Rch s x :=
  fun P h0 h1 => h P h0 (fun a l b ha he => h1 a l b ha ((mem_nf stoE _ s.es).1 he))
theorem reachL_norm (s : Lts) : reachL s.norm = reachL s := by
  unfold reachL
  congr 1
  funext x
  congr 1
  exact propext ⟨rch_of_norm, rch_norm⟩

/-- All of the cut's states are reachable. -/
theorem cut_all {s : Lts} (hr : s.Right) (h0 : s.st ≠ 0) : (reachL (cut s).norm).length = (reachL s).length := by
  rw [reachL_norm]
  have hst : (cut s).st = ((reachL s).length : Int) := rfl
  have hc : reachL (cut s) = (List.range (reachL s).length).map Int.ofNat := by
    unfold reachL
    rw [hst, Int.toNat_natCast]
    rw [List.filter_eq_self.2]
    · rfl
    intro x hx
    obtain ⟨i, hi, rfl⟩ := List.mem_map.1 hx
    rw [List.mem_range] at hi
    obtain ⟨y, hy⟩ : ∃ y, (reachL s)[i]? = some y := ⟨_, List.getElem?_eq_getElem hi⟩
    have := cut_rch hr h0 ((mem_reachL hr h0).1 (List.mem_of_getElem? hy))
    rw [toOf_get hy] at this
    simpa using this
  rw [hc]; simp

end Pl
end Go.Proofs.YtkmljelgogcobaaGreatDoor

namespace Go.Proofs.YtkmljelgogcobaaGreatDoor
namespace Pl

/-- A numbering of the cycles of silent steps: silent steps never lead up. -/
structure Cyc (s : Lts) (n : Nat) (f : Nat → Int) : Prop where
  same : ∀ x y, x < n → y < n → (f x = f y ↔ TR s x y ∧ TR s y x)
  down : ∀ x y, tau s x y → f y ≤ f x

theorem TI.done {s : Lts} {n : Nat} {t : TS} {nx : Nat → Nat} (h : TI s n t [] nx) : t.opn = [] := by
  rcases List.eq_nil_or_concat t.opn with h1 | ⟨l, x, h1⟩
  · exact h1
  · obtain ⟨g, hg, _⟩ := h.back x (by rw [h1]; simp)
    simp at hg

theorem TI.cyc {s : Lts} {n : Nat} {t : TS} {nx : Nat → Nat} (h : TI s n t [] nx) (hr : s.Right) (hn : s.st = (n : Int)) (hall : ∀ x, x < n → t.num x ≠ 0) : Cyc s n t.cls := by
  have ho := h.done
  have hc : ∀ x, x < n → t.clo x := fun x hx => ⟨hall x hx, by rw [ho]; simp⟩
  exact ⟨fun x y hx hy => h.scc x y hx hy (hc x hx) (hc y hy), fun x y hxy => (h.clos x (tau_lt hr hn hxy).1 (hc x (tau_lt hr hn hxy).1) y hxy).2⟩

def fl (n : Nat) (f : Nat → Int) : List Int := (List.range n).map f
theorem fl_len (n : Nat) (f : Nat → Int) : (fl n f).length = n := by simp [fl]
theorem fl_get {n : Nat} (f : Nat → Int) {i : Nat} (h : i < n) : (fl n f)[i]? = some (f i) := by simp [fl, h]

theorem Cyc.unique {s : Lts} {n : Nat} {f g : Nat → Int} (hf : Cyc s n f) (hg : Cyc s n g) : canon (fl n f) = canon (fl n g) := by
  rw [sameT_canon (by rw [fl_len, fl_len])]
  intro i k x y x' y' hki hx hy hx' hy'
  have hi : i < n := by have := (List.getElem?_eq_some_iff.1 hx).1; rwa [fl_len] at this
  have hk : k < n := by omega
  rw [fl_get f hi] at hx; rw [fl_get f hk] at hy; rw [fl_get g hi] at hx'; rw [fl_get g hk] at hy'
  cases hx; cases hy; cases hx'; cases hy'
  rw [hf.same i k hi hk, hg.same i k hi hk]

/-- The class of a state, by the one form of a numbering. -/
def clf (n : Nat) (f : Nat → Int) (x : Nat) : Int := ((dist (fl n f)).idxOf (f x) : Int)
theorem canon_fl (n : Nat) (f : Nat → Int) : canon (fl n f) = fl n (clf n f) := by
  unfold canon fl clf
  rw [List.map_map]; rfl
theorem clf_eq {n : Nat} {f : Nat → Int} {x y : Nat} (hx : x < n) (hy : y < n) : clf n f x = clf n f y ↔ f x = f y :=
  canon_eq_iff (fl_get f hx) (fl_get f hy)
theorem clf_rng {n : Nat} {f : Nat → Int} {x : Nat} (hx : x < n) : 0 ≤ clf n f x ∧ clf n f x < (dist (fl n f)).length := by
  have : f x ∈ dist (fl n f) := (mem_dist _).2 (List.mem_of_getElem? (fl_get f hx))
  have := List.idxOf_lt_length_of_mem this
  unfold clf; omega

theorem dist_ofNat : ∀ m : Nat, dist ((List.range m).map Int.ofNat) = (List.range m).map Int.ofNat
  | 0 => rfl
  | m + 1 => by
    rw [List.range_succ, List.map_append, List.map_cons, List.map_nil, dist_snoc, dist_ofNat m]
    unfold addN
    rw [if_neg (by simp; omega)]
theorem idx_ofNat {m i : Nat} (h : i < m) : ((List.range m).map Int.ofNat).idxOf (i : Int) = i := by
  have hn : ((List.range m).map Int.ofNat).Nodup := by rw [← dist_ofNat]; exact nodup_dist _
  have hg : ((List.range m).map Int.ofNat)[i]? = some (i : Int) := by simp [h]
  exact idx_get hn hg
theorem canon_ofNat (m : Nat) : canon ((List.range m).map Int.ofNat) = (List.range m).map Int.ofNat := by
  unfold canon
  rw [dist_ofNat]
  apply List.ext_getElem?
  intro i
  by_cases h : i < m
  · have hg : ((List.range m).map Int.ofNat)[i]? = some (i : Int) := by simp [h]
    rw [List.getElem?_map, hg]
    show some ((((List.range m).map Int.ofNat).idxOf (i : Int) : Nat) : Int) = _
    rw [idx_ofNat h]
  · rw [List.getElem?_eq_none (by simp; omega), List.getElem?_eq_none (by simp; omega)]

/-- A numbering that keeps all apart has the numbers themselves for its one form. -/
theorem canon_inj {m : Nat} {f : Nat → Int} (h : ∀ x y, x < m → y < m → f x = f y → x = y) : canon (fl m f) = (List.range m).map Int.ofNat := by
  have h1 : fl m f = ((List.range m).map Int.ofNat).map (fun z => f z.toNat) := by
    unfold fl; rw [List.map_map]; rfl
  rw [h1, canon_map, canon_ofNat]
  intro x hx y hy hxy
  obtain ⟨i, hi, rfl⟩ := List.mem_map.1 hx
  obtain ⟨j, hj, rfl⟩ := List.mem_map.1 hy
  rw [List.mem_range] at hi hj
  have := h i j hi hj (by simpa using hxy)
  rw [this]

/-- The classes' numbers: how many there are, each one taken. -/
theorem canon_dist (l : List Int) : dist (canon l) = (List.range (dist l).length).map Int.ofNat := by
  have hinj : ∀ x ∈ l, ∀ y ∈ l, ((dist l).idxOf x : Int) = ((dist l).idxOf y : Int) → x = y := by
    intro x hx y hy he
    exact idx_inj ((mem_dist l).2 hx) ((mem_dist l).2 hy) (by omega)
  unfold canon
  rw [dist_map (f := fun x => ((dist l).idxOf x : Int)) l hinj]
  apply List.ext_getElem?
  intro i
  by_cases h : i < (dist l).length
  · have hg : (dist l)[i]? = some (dist l)[i] := List.getElem?_eq_getElem h
    rw [List.getElem?_map, hg]
    simp [idx_get (nodup_dist l) hg, h]
  · rw [List.getElem?_eq_none (by simp; omega), List.getElem?_eq_none (by simp; omega)]

theorem clf_onto {n : Nat} {f : Nat → Int} {k : Nat} (h : k < (dist (fl n f)).length) : ∃ x, x < n ∧ clf n f x = (k : Int) := by
  have hg : (dist (fl n f))[k]? = some (dist (fl n f))[k] := List.getElem?_eq_getElem h
  have hm : (dist (fl n f))[k] ∈ dist (fl n f) := List.getElem_mem h
  have hm2 := (mem_dist _).1 hm
  obtain ⟨x, hx, he⟩ := List.mem_map.1 (show (dist (fl n f))[k] ∈ (List.range n).map f from hm2)
  rw [List.mem_range] at hx
  refine ⟨x, hx, ?_⟩
  unfold clf
  rw [he]
  rw [idx_get (nodup_dist _) hg]

end Pl
end Go.Proofs.YtkmljelgogcobaaGreatDoor

namespace Go.Proofs.YtkmljelgogcobaaGreatDoor
namespace Pl

/-- The class of a number. -/
def atL (c : List Int) (x : Int) : Int := c.getD x.toNat 0
def colE (c : List Int) (es : List E) : List E := (es.map (fun x => (atL c x.1, x.2.1, atL c x.2.2))).filter (fun y => !(decide (y.2.1 = 0) && decide (y.1 = y.2.2)))
/-- The collapsed system, by classes. -/
def col (s : Lts) (c : List Int) : Lts := ⟨((dist c).length : Int), s.lb, if s.st = 0 then 0 else atL c s.s0, nf ltE (colE c s.es)⟩

theorem mem_colE {c : List Int} {es : List E} {y : E} : y ∈ colE c es ↔ ∃ x ∈ es, y = (atL c x.1, x.2.1, atL c x.2.2) ∧ ¬ (y.2.1 = 0 ∧ y.1 = y.2.2) := by
  unfold colE
  rw [List.mem_filter, List.mem_map]
  constructor
  · rintro ⟨⟨x, hx, rfl⟩, h⟩
    refine ⟨x, hx, rfl, fun ⟨h1, h2⟩ => ?_⟩
    have h1' : x.2.1 = 0 := h1
    have h2' : atL c x.1 = atL c x.2.2 := h2
    simp [h1', h2'] at h
  · rintro ⟨x, hx, rfl, h⟩
    refine ⟨⟨x, hx, rfl⟩, ?_⟩
    by_cases h1 : x.2.1 = 0
    · have h2 : ¬ atL c x.1 = atL c x.2.2 := fun e => h ⟨h1, e⟩
      simp [h2]
    · simp [h1]
theorem colE_len (c : List Int) (es : List E) : (colE c es).length ≤ es.length := by
  unfold colE
  have := List.length_filter_le (fun y : E => !(decide (y.2.1 = 0) && decide (y.1 = y.2.2))) (es.map (fun x => (atL c x.1, x.2.1, atL c x.2.2)))
  rw [List.length_map] at this
  exact this
theorem col_srt (s : Lts) (c : List Int) : Srt ltE (col s c).es := srt_nf stoE _

theorem atL_fl {n : Nat} {f : Nat → Int} {x : Int} (h0 : 0 ≤ x) (h : x < (n : Int)) : atL (fl n f) x = f x.toNat := by
  unfold atL
  have : (fl n f)[x.toNat]? = some (f x.toNat) := fl_get f (by omega)
  rw [List.getD_eq_getElem?_getD, this]; rfl

section
variable {s : Lts} {n : Nat} {f : Nat → Int}

theorem dist_clf (n : Nat) (f : Nat → Int) : dist (fl n (clf n f)) = (List.range (dist (fl n f)).length).map Int.ofNat := by
  rw [← canon_fl, canon_dist]
theorem dist_clf_len (n : Nat) (f : Nat → Int) : (dist (fl n (clf n f))).length = (dist (fl n f)).length := by rw [dist_clf]; simp
theorem dist_pos {n : Nat} {f : Nat → Int} (h : 0 < n) : 0 < (dist (fl n f)).length := by
  have h1 : f 0 ∈ dist (fl n f) := (mem_dist _).2 (List.mem_of_getElem? (fl_get f h))
  exact List.length_pos_of_mem h1
theorem dist_le (n : Nat) (f : Nat → Int) : (dist (fl n f)).length ≤ n := by have := dist_len (fl n f); rw [fl_len] at this; exact this

/-- The collapsed system is one. -/
theorem col_right (hr : s.Right) (hn : s.st = (n : Int)) : (col s (fl n (clf n f))).Right := by
  have h0 := hr.st0
  have hd := dist_le n f
  have hdl := dist_clf_len n f
  have hat : ∀ x : Int, 0 ≤ x → x < (n : Int) → 0 ≤ atL (fl n (clf n f)) x ∧ atL (fl n (clf n f)) x < ((dist (fl n f)).length : Int) := by
    intro x h1 h2
    rw [atL_fl h1 h2]
    exact clf_rng (by omega)
  refine ⟨?_, fun y hy => ?_⟩
  · have h2 := colE_len (fl n (clf n f)) s.es
    have h3 := length_nf (lt := ltE) (colE (fl n (clf n f)) s.es)
    have h4 : 0 ≤ (col s (fl n (clf n f))).s0 ∧ ((col s (fl n (clf n f))).s0 = 0 ∨ (col s (fl n (clf n f))).s0 < ((dist (fl n f)).length : Int)) := by
      simp only [col]
      split
      · omega
      · rename_i hne
        have := hat s.s0 (by omega) (by omega)
        omega
    unfold HeadBad
    simp only [col] at *
    omega
  · obtain ⟨x, hx, rfl, _⟩ := mem_colE.1 ((mem_nf stoE y _).1 hy)
    have h1 := offB_false.1 (hr.edges x hx)
    have h2 := hat x.1 (by omega) (by omega)
    have h3 := hat x.2.2 (by omega) (by omega)
    rw [offB_false]
    simp only [col]
    omega

/-- A silent step of the collapsed system is one of the system, between two classes. -/
theorem tau_col (hr : s.Right) (hn : s.st = (n : Int)) {X Y : Nat} (h : tau (col s (fl n (clf n f))) X Y) : X ≠ Y ∧ ∃ x y, x < n ∧ y < n ∧ tau s x y ∧ clf n f x = (X : Int) ∧ clf n f y = (Y : Int) := by
  obtain ⟨e, he, heq, hne⟩ := mem_colE.1 ((mem_nf stoE _ _).1 h)
  have h1 := offB_false.1 (hr.edges e he)
  simp only [Prod.mk.injEq] at heq
  obtain ⟨q1, q2, q3⟩ := heq
  rw [atL_fl (by omega) (by omega)] at q1 q3
  refine ⟨fun e2 => hne ⟨rfl, by rw [e2]⟩, e.1.toNat, e.2.2.toNat, by omega, by omega, ?_, q1.symm, q3.symm⟩
  unfold tau
  rw [show ((e.1.toNat : Nat) : Int) = e.1 by omega, show ((e.2.2.toNat : Nat) : Int) = e.2.2 by omega, q2]
  exact he

/-- The number of a class's states. -/
noncomputable def rank (n : Nat) (f : Nat → Int) (X : Nat) : Int := (dist (fl n f)).getD X 0
theorem rank_of {n : Nat} {f : Nat → Int} {x X : Nat} (hx : x < n) (h : clf n f x = (X : Int)) : rank n f X = f x := by
  have hm : f x ∈ dist (fl n f) := (mem_dist _).2 (List.mem_of_getElem? (fl_get f hx))
  have h1 := List.idxOf_lt_length_of_mem hm
  have h2 : (dist (fl n f))[(dist (fl n f)).idxOf (f x)] = f x := List.getElem_idxOf h1
  unfold clf at h
  have hX : (dist (fl n f)).idxOf (f x) = X := by omega
  unfold rank
  subst hX
  rw [List.getD_eq_getElem?_getD, List.getElem?_eq_getElem h1, Option.getD_some, h2]

theorem rank_down (hr : s.Right) (hn : s.st = (n : Int)) (hc : Cyc s n f) {X Y : Nat} (h : tau (col s (fl n (clf n f))) X Y) : rank n f Y < rank n f X := by
  obtain ⟨hne, x, y, hx, hy, hxy, h1, h2⟩ := tau_col hr hn h
  rw [rank_of hx h1, rank_of hy h2]
  have h3 := hc.down x y hxy
  have h4 : f x ≠ f y := fun e => hne (by have := (clf_eq hx hy).2 e; omega)
  omega

theorem rank_TR (hr : s.Right) (hn : s.st = (n : Int)) (hc : Cyc s n f) {X Y : Nat} (h : TR (col s (fl n (clf n f))) X Y) : X = Y ∨ rank n f Y < rank n f X := by
  induction h with
  | refl => exact .inl rfl
  | tail _ ht ih =>
    have := rank_down hr hn hc ht
    rcases ih with rfl | h
    · exact .inr this
    · exact .inr (by omega)

/-- No cycle of silent steps is left. -/
theorem col_apart (hr : s.Right) (hn : s.st = (n : Int)) (hc : Cyc s n f) {m : Nat} {g : Nat → Int} (hg : Cyc (col s (fl n (clf n f))) m g) : canon (fl m g) = (List.range m).map Int.ofNat := by
  apply canon_inj
  intro X Y hX hY h
  obtain ⟨h1, h2⟩ := (hg.same X Y hX hY).1 h
  rcases rank_TR hr hn hc h1 with h3 | h3
  · exact h3
  · rcases rank_TR hr hn hc h2 with h4 | h4
    · exact h4.symm
    · omega

/-- It is its own collapse. -/
theorem col_col (hr : s.Right) (hn : s.st = (n : Int)) : col (col s (fl n (clf n f))) ((List.range (dist (fl n f)).length).map Int.ofNat) = col s (fl n (clf n f)) := by
  obtain ⟨m, hm⟩ : ∃ m, m = (dist (fl n f)).length := ⟨_, rfl⟩
  obtain ⟨t, ht⟩ : ∃ t, t = col s (fl n (clf n f)) := ⟨_, rfl⟩
  have htr : t.Right := by rw [ht]; exact col_right hr hn
  have hst : t.st = (m : Int) := by rw [ht, hm]; show ((dist (fl n (clf n f))).length : Int) = _; rw [dist_clf_len]
  have hes : Srt ltE t.es := by rw [ht]; exact col_srt s _
  have hne : ∀ y ∈ t.es, ¬ (y.2.1 = 0 ∧ y.1 = y.2.2) := by
    intro y hy
    rw [ht] at hy
    obtain ⟨x, _, _, h⟩ := mem_colE.1 ((mem_nf stoE _ _).1 hy)
    exact h
  have hs0 : t.st = 0 → t.s0 = 0 := fun h => by
    have := htr.st0; omega
  have hat : ∀ x : Int, 0 ≤ x → x < (m : Int) → atL ((List.range m).map Int.ofNat) x = x := by
    intro x h1 h2
    unfold atL
    have : ((List.range m).map Int.ofNat)[x.toNat]? = some x := by
      have h3 : x.toNat < m := by omega
      simp [h3]; omega
    rw [List.getD_eq_getElem?_getD, this]; rfl
  rw [← hm, ← ht]
  have h1 : ((dist ((List.range m).map Int.ofNat)).length : Int) = t.st := by rw [dist_ofNat, hst]; simp
  have h2 : (if t.st = 0 then 0 else atL ((List.range m).map Int.ofNat) t.s0) = t.s0 := by
    split
    · rename_i h; exact (hs0 h).symm
    · have := htr.st0; exact hat _ (by omega) (by omega)
  have h3 : nf ltE (colE ((List.range m).map Int.ofNat) t.es) = t.es := by
    symm
    apply eq_nf stoE hes
    intro y
    rw [mem_colE]
    constructor
    · intro hy
      have := offB_false.1 (htr.edges y hy)
      refine ⟨y, hy, ?_, hne y hy⟩
      rw [hat _ (by omega) (by omega), hat _ (by omega) (by omega)]
    · rintro ⟨x, hx, rfl, _⟩
      have := offB_false.1 (htr.edges x hx)
      rw [hat _ (by omega) (by omega), hat _ (by omega) (by omega)]
      exact hx
  show Lts.mk _ _ _ _ = t
  rw [h1, h2, h3]

end
end Pl
end Go.Proofs.YtkmljelgogcobaaGreatDoor

namespace Go.Proofs.YtkmljelgogcobaaGreatDoor
namespace Pl

theorem nodup_sub : ∀ (L M : List Nat), L.Nodup → (∀ x ∈ L, x ∈ M) → L.length ≤ M.length
  | [], _, _, _ => by simp
  | x :: L, M, hn, hs => by
    have hx := List.nodup_cons.1 hn
    have hm := hs x List.mem_cons_self
    have ih := nodup_sub L (M.erase x) hx.2 (fun y hy => (List.mem_erase_of_ne (fun e : y = x => hx.1 (e ▸ hy))).2 (hs y (List.mem_cons_of_mem _ hy)))
    rw [List.length_erase_of_mem hm] at ih
    have := List.length_pos_of_mem hm
    simp; omega

section
variable {t : Lts}

theorem taus_nodup (hr : t.Right) (hs : Srt ltE t.es) (k : Nat) : (taus t k).Nodup := by
  have h0 : ∀ y ∈ t.outs (k : Int), 0 ≤ y.1 ∧ 0 ≤ y.2 := fun y hy => by
    have := offB_false.1 (hr.edges _ (mem_outs.1 hy)); simp only at this; omega
  have h1 := outs_srt hs (k : Int)
  unfold taus List.Nodup
  rw [List.pairwise_map]
  have h2 : ((t.outs (k : Int)).takeWhile (fun y => y.1 == 0)).Pairwise (fun a b => ltS a b = true) := List.Pairwise.sublist (List.takeWhile_sublist _) h1
  refine List.Pairwise.imp_of_mem ?_ h2
  intro a b ha hb hab e
  have ma := (takeWhile_mem h1 (fun y hy => (h0 y hy).1) a).1 ha
  have mb := (takeWhile_mem h1 (fun y hy => (h0 y hy).1) b).1 hb
  rw [ltS_iff] at hab
  have qa := h0 a ma.1; have qb := h0 b mb.1
  omega

/-- How many of a state's silent steps lead outside D. -/
def Wt (t : Lts) (D : List Nat) (k : Nat) : Nat := ((taus t k).filter (fun y => !decide (y ∈ D))).length
theorem Wt_nil (k : Nat) : Wt t [] k = (taus t k).length := by
  unfold Wt
  rw [List.filter_eq_self.2]
  intro y _; simp
theorem Wt_zero (hr : t.Right) (hs : Srt ltE t.es) {D : List Nat} {k : Nat} : Wt t D k = 0 ↔ ∀ y, tau t k y → y ∈ D := by
  unfold Wt
  rw [List.length_eq_zero_iff, List.filter_eq_nil_iff]
  constructor
  · intro h y hy
    have := h y ((mem_taus hr hs).2 hy)
    simpa using this
  · intro h y hy
    have := h y ((mem_taus hr hs).1 hy)
    simp [this]

theorem filt_split {D : List Nat} {k : Nat} (hk : k ∉ D) : ∀ (l : List Nat), l.Nodup →
    (l.filter (fun y => !decide (y ∈ D))).length = (l.filter (fun y => !decide (y ∈ D ++ [k]))).length + (if k ∈ l then 1 else 0)
  | [], _ => by simp
  | x :: l, hn => by
    have hx := List.nodup_cons.1 hn
    have ih := filt_split hk l hx.2
    by_cases e : x = k
    · subst e
      have h1 : (!decide (x ∈ D)) = true := by simp [hk]
      have h2 : (!decide (x ∈ D ++ [x])) = false := by simp
      rw [List.filter_cons, List.filter_cons, h1, h2]
      rw [if_neg hx.1] at ih
      simp [ih]
    · have h1 : (k ∈ x :: l) ↔ k ∈ l := by
        rw [List.mem_cons]
        exact ⟨fun h => h.resolve_left (fun e2 => e e2.symm), .inr⟩
      have h2 : (x ∈ D ++ [k]) ↔ x ∈ D := by
        rw [List.mem_append, List.mem_singleton]
        exact ⟨fun h => h.resolve_right e, .inl⟩
      rw [List.filter_cons, List.filter_cons]
      simp only [h1, h2]
      by_cases h3 : x ∈ D
      · simp only [h3, decide_true, Bool.not_true, Bool.false_eq_true, if_false]; exact ih
      · simp only [h3, decide_false, Bool.not_false, if_true, List.length_cons]; omega

theorem Wt_add (hr : t.Right) (hs : Srt ltE t.es) {D : List Nat} {k : Nat} (hk : k ∉ D) (j : Nat) [Decidable (tau t j k)] : Wt t D j = Wt t (D ++ [k]) j + (if tau t j k then 1 else 0) := by
  have h := filt_split hk (taus t j) (taus_nodup hr hs j)
  unfold Wt
  rw [h]
  congr 1
  by_cases h2 : tau t j k
  · rw [if_pos ((mem_taus hr hs).2 h2), if_pos h2]
  · rw [if_neg (fun h3 => h2 ((mem_taus hr hs).1 h3)), if_neg h2]

/-- The next in order. -/
structure IsNext (t : Lts) (m : Nat) (D : List Nat) (k : Nat) : Prop where
  lt : k < m
  new : k ∉ D
  all : Wt t D k = 0
  first : ∀ j, j < k → j ∈ D ∨ Wt t D j ≠ 0
inductive OrdL (t : Lts) (m : Nat) : List Nat → Prop
  | nil : OrdL t m []
  | step {D : List Nat} {k : Nat} : OrdL t m D → IsNext t m D k → OrdL t m (D ++ [k])

theorem IsNext.unique {m : Nat} {D : List Nat} {k k' : Nat} (h : IsNext t m D k) (h' : IsNext t m D k') : k = k' := by
  rcases Nat.lt_trichotomy k k' with h1 | h1 | h1
  · rcases h'.first k h1 with h2 | h2
    · exact absurd h2 h.new
    · exact absurd h.all h2
  · exact h1
  · rcases h.first k' h1 with h2 | h2
    · exact absurd h2 h'.new
    · exact absurd h'.all h2
theorem OrdL.unique {m : Nat} {D D' : List Nat} (h : OrdL t m D) (h' : OrdL t m D') (hl : D.length = D'.length) : D = D' := by
  induction h generalizing D' with
  | nil => cases h' with
    | nil => rfl
    | step _ _ => simp at hl
  | step h1 h2 ih => cases h' with
    | nil => simp at hl
    | step h3 h4 =>
      have := ih h3 (by simpa using hl)
      subst this
      rw [h2.unique h4]
theorem OrdL.nodup {m : Nat} {D : List Nat} (h : OrdL t m D) : D.Nodup := by
  induction h with
  | nil => simp
  | step _ h2 ih =>
    rw [List.nodup_append]
    exact ⟨ih, by simp, fun a ha b hb e => by simp at hb; subst hb; subst e; exact h2.new ha⟩
theorem OrdL.rng {m : Nat} {D : List Nat} (h : OrdL t m D) : ∀ x ∈ D, x < m := by
  induction h with
  | nil => simp
  | step _ h2 ih =>
    intro x hx
    rcases List.mem_append.1 hx with h3 | h3
    · exact ih x h3
    · simp at h3; subst h3; exact h2.lt
/-- What silent steps lead to stands ahead. -/
theorem OrdL.ahead (hr : t.Right) (hs : Srt ltE t.es) {m : Nat} {D : List Nat} (h : OrdL t m D) : ∀ (i k y : Nat), D[i]? = some k → tau t k y → y ∈ D.take i := by
  induction h with
  | nil => simp
  | @step D k' _ h2 ih =>
    intro i k y hi hy
    by_cases hlt : i < D.length
    · rw [List.getElem?_append_left hlt] at hi
      rw [List.take_append_of_le_length (by omega)]
      exact ih i k y hi hy
    · have hl := (List.getElem?_eq_some_iff.1 hi).1
      simp at hl
      obtain rfl : i = D.length := by omega
      simp at hi
      subst hi
      rw [List.take_append_of_le_length (by omega), List.take_length]
      exact (Wt_zero hr hs).1 h2.all y hy
/-- .. so all silent steps of what stands lead to what stands. -/
theorem OrdL.closed (hr : t.Right) (hs : Srt ltE t.es) {m : Nat} {D : List Nat} (h : OrdL t m D) {k y : Nat} (hk : k ∈ D) (hy : tau t k y) : y ∈ D := by
  obtain ⟨i, hi⟩ := List.getElem?_of_mem hk
  exact List.mem_of_mem_take (h.ahead hr hs i k y hi hy)

theorem min_ex (P : Nat → Prop) : (∃ k, P k) → ∃ k, P k ∧ ∀ j, j < k → ¬ P j := by
  rintro ⟨k, hk⟩
  induction k using Nat.strongRecOn with
  | _ k ih =>
    by_cases h : ∃ j, j < k ∧ P j
    · obtain ⟨j, hj, hp⟩ := h
      exact ih j hj hp
    · exact ⟨k, hk, fun j hj hp => h ⟨j, hj, hp⟩⟩

/-- As long as one is left there is a next one, where silent steps lead strictly down. -/
theorem next_ex (hr : t.Right) (hs : Srt ltE t.es) {m : Nat} (hm : t.st = (m : Int)) {F : Nat → Int} (hF : ∀ x y, tau t x y → F y < F x) {D : List Nat} {x : Nat} (hx : x < m) (hxD : x ∉ D) : ∃ k, IsNext t m D k := by
  -- one of least rank among those that are left
  have h1 : ∃ k, k < m ∧ k ∉ D ∧ ∀ y, tau t k y → y ∈ D := by
    have key : ∀ (B : Nat) (x : Nat), x < m → x ∉ D → (F x - F x).toNat ≤ B → True := fun _ _ _ _ _ => trivial
    clear key
    -- by strong induction over how many of those left are below
    have : ∀ (c : Nat) (x : Nat), x < m → x ∉ D → ((List.range m).filter (fun z => decide (F z < F x))).length ≤ c → ∃ k, k < m ∧ k ∉ D ∧ ∀ y, tau t k y → y ∈ D := by
      intro c
      induction c with
      | zero =>
        intro x hx hxD hc
        refine ⟨x, hx, hxD, fun y hy => ?_⟩
        have hyF := hF x y hy
        have hym := (tau_lt hr hm hy).2
        have : y ∈ (List.range m).filter (fun z => decide (F z < F x)) := by simp [hym, hyF]
        have := List.length_pos_of_mem this
        omega
      | succ c ih =>
        intro x hx hxD hc
        by_cases h : ∀ y, tau t x y → y ∈ D
        · exact ⟨x, hx, hxD, h⟩
        · obtain ⟨y, hy⟩ := Classical.not_forall.1 h
          obtain ⟨hy1, hy2⟩ := Classical.not_imp.1 hy
          have hyF := hF x y hy1
          have hym := (tau_lt hr hm hy1).2
          refine ih y hym hy2 ?_
          have hsub : ((List.range m).filter (fun z => decide (F z < F y))).length + 1 ≤ ((List.range m).filter (fun z => decide (F z < F x))).length := by
            have hnd : (y :: (List.range m).filter (fun z => decide (F z < F y))).Nodup := by
              rw [List.nodup_cons]
              exact ⟨by simp, List.Nodup.sublist List.filter_sublist List.nodup_range⟩
            have := nodup_sub _ ((List.range m).filter (fun z => decide (F z < F x))) hnd (fun z hz => by
              rcases List.mem_cons.1 hz with rfl | hz
              · simp [hym, hyF]
              · simp at hz ⊢; omega)
            simpa using this
          omega
    exact this _ x hx hxD (Nat.le_refl _)
  obtain ⟨k, ⟨h2, h3, h4⟩, h5⟩ := min_ex (fun k => k < m ∧ k ∉ D ∧ Wt t D k = 0) (by
    obtain ⟨k, h2, h3, h4⟩ := h1
    exact ⟨k, h2, h3, (Wt_zero hr hs).2 h4⟩)
  refine ⟨k, h2, h3, h4, fun j hj => ?_⟩
  by_cases hjD : j ∈ D
  · exact .inl hjD
  · exact .inr (fun e => h5 j hj ⟨by omega, hjD, e⟩)

end
end Pl
end Go.Proofs.YtkmljelgogcobaaGreatDoor

namespace Go.Proofs.YtkmljelgogcobaaGreatDoor
namespace Pl

theorem canon_snoc (l : List Int) (x : Int) : canon (l ++ [x]) = canon l ++ [((dist (l ++ [x])).idxOf x : Int)] := by
  unfold canon
  rw [List.map_append, List.map_cons, List.map_nil]
  congr 1
  apply List.map_congr_left
  intro y hy
  rw [idx_append l [x] hy]

theorem canon_take (xs : List Int) (i : Nat) : (canon xs).take i = canon (xs.take i) := by
  unfold canon
  rw [← List.map_take]
  apply List.map_congr_left
  intro y hy
  conv => lhs; rw [← List.take_append_drop i xs]
  rw [idx_append _ _ hy]

theorem idx_range : ∀ (n a : Nat) (x : Nat), x < n → ((List.range' a n).map Int.ofNat).idxOf ((a + x : Nat) : Int) = x
  | 0, _, _, h => by omega
  | n + 1, a, 0, _ => by simp [List.range'_succ]
  | n + 1, a, x + 1, h => by
    rw [List.range'_succ, List.map_cons, List.idxOf_cons]
    have hb : (Int.ofNat a == ((a + (x + 1) : Nat) : Int)) = false := by simp; omega
    rw [hb]
    have := idx_range n (a + 1) x (by omega)
    rw [show a + (x + 1) = a + 1 + x by omega]
    simp only [cond_false, this]

theorem map_idx : ∀ (l : List Int), l.Nodup → l.map (fun x => (l.idxOf x : Int)) = (List.range l.length).map Int.ofNat := by
  intro l hn
  apply List.ext_getElem?
  intro i
  rw [List.getElem?_map, List.getElem?_map]
  by_cases h : i < l.length
  · rw [List.getElem?_eq_getElem h, List.getElem?_range h]
    simp only [Option.map_some]
    congr 1
    have := List.Nodup.idxOf_getElem hn i h
    rw [this]; rfl
  · rw [List.getElem?_eq_none (by omega), List.getElem?_eq_none (by simp; omega)]; rfl

theorem dist_canon (l : List Int) : dist (canon l) = (List.range (dist l).length).map Int.ofNat := by
  have h := dist_map (f := fun x => ((dist l).idxOf x : Int)) l (fun x hx y hy h => idx_inj ((mem_dist l).2 hx) ((mem_dist l).2 hy) (Int.ofNat.inj h))
  unfold canon
  exact h.trans (map_idx _ (nodup_dist l))

/-- The number of classes ahead of i. -/
def nUp (xs : List Int) (i : Nat) : Nat := (dist (xs.take i)).length

theorem nUp_le (xs : List Int) (i : Nat) : nUp xs i ≤ i := by
  unfold nUp; have := dist_len (xs.take i); simp at this; omega

theorem nUp_snoc {xs : List Int} {i : Nat} {x : Int} (h : xs[i]? = some x) : xs.take (i + 1) = xs.take i ++ [x] := by
  obtain ⟨hl, rfl⟩ := List.getElem?_eq_some_iff.1 h
  exact List.take_succ_eq_append_getElem hl

/-- The one form's own steps: an old class. -/
theorem form_old {xs : List Int} {i : Nat} {x : Int} (h : xs[i]? = some x) (hc : canon (xs.take i) = xs.take i) (h0 : 0 ≤ x) (h1 : x < nUp xs i) :
    canon (xs.take (i + 1)) = xs.take (i + 1) ∧ nUp xs (i + 1) = nUp xs i := by
  have hd := dist_canon (xs.take i)
  rw [hc] at hd
  obtain ⟨k, rfl⟩ := Int.eq_ofNat_of_zero_le h0
  unfold nUp at h1
  have hk : k < (dist (xs.take i)).length := by omega
  have hm : (k : Int) ∈ dist (xs.take i) := by
    rw [hd, List.mem_map]; exact ⟨k, by simpa using hk, rfl⟩
  have hdd : dist (xs.take (i + 1)) = dist (xs.take i) := by rw [nUp_snoc h, dist_snoc]; unfold addN; rw [if_pos hm]
  refine ⟨?_, by unfold nUp; rw [hdd]⟩
  have hix : (dist (xs.take (i + 1))).idxOf (k : Int) = k := by
    rw [hdd, hd, List.range_eq_range']
    have := idx_range (dist (xs.take i)).length 0 k hk
    simpa using this
  rw [nUp_snoc h] at hix ⊢
  rw [canon_snoc, hix, hc]

/-- .. a new one. -/
theorem form_new {xs : List Int} {i : Nat} {x : Int} (h : xs[i]? = some x) (hc : canon (xs.take i) = xs.take i) (h1 : x = nUp xs i) :
    canon (xs.take (i + 1)) = xs.take (i + 1) ∧ nUp xs (i + 1) = nUp xs i + 1 := by
  have hd := dist_canon (xs.take i)
  rw [hc] at hd
  unfold nUp at h1
  have hm : x ∉ dist (xs.take i) := by
    rw [hd, List.mem_map]; rintro ⟨k, hk, rfl⟩
    rw [List.mem_range] at hk
    have : (k : Int) = ((dist (xs.take i)).length : Int) := h1
    omega
  have hdd : dist (xs.take (i + 1)) = dist (xs.take i) ++ [x] := by rw [nUp_snoc h, dist_snoc]; unfold addN; rw [if_neg hm]
  refine ⟨?_, by unfold nUp; rw [hdd]; simp⟩
  have hix : (dist (xs.take (i + 1))).idxOf x = (dist (xs.take i)).length := by rw [hdd, List.idxOf_append]; simp [hm]
  rw [nUp_snoc h] at hix ⊢
  rw [canon_snoc, hix, hc, ← h1]

/-- .. none at all. -/
theorem form_no {xs : List Int} {i : Nat} {x : Int} (h : xs[i]? = some x) (h1 : x < 0 ∨ (nUp xs i : Int) < x) : canon xs ≠ xs := by
  intro e
  have h2 := canon_get xs i
  rw [e, h] at h2
  simp only [Option.map_some, Option.some.injEq] at h2
  have h3 := idx_append (xs.take (i + 1)) (xs.drop (i + 1)) (y := x) (by rw [nUp_snoc h]; simp)
  rw [List.take_append_drop] at h3
  rw [h3] at h2
  have h4 : (dist (xs.take (i + 1))).idxOf x ≤ nUp xs i := by
    rw [nUp_snoc h, dist_snoc]
    unfold nUp
    by_cases hm : x ∈ dist (xs.take i)
    · rw [idx_addN hm]; exact List.idxOf_le_length
    · rw [idx_new hm]; exact Nat.le_refl _
  omega

/-- The greatest of the one form's numbers, and one more. -/
theorem nUp_canon {xs : List Int} {i : Nat} {x : Int} (h : xs[i]? = some x) :
    (if (nUp xs i : Int) ≤ ((dist xs).idxOf x : Int) then ((dist xs).idxOf x : Int) + 1 else (nUp xs i : Int)) = nUp xs (i + 1) := by
  have h3 := idx_append (xs.take (i + 1)) (xs.drop (i + 1)) (y := x) (by rw [nUp_snoc h]; simp)
  rw [List.take_append_drop] at h3
  rw [h3]
  unfold nUp
  rw [nUp_snoc h, dist_snoc]
  by_cases hm : x ∈ dist (xs.take i)
  · rw [idx_addN hm]
    have := List.idxOf_lt_length_of_mem hm
    unfold addN
    rw [if_pos hm, if_neg (by omega)]
  · rw [idx_new hm]
    unfold addN
    rw [if_neg hm, if_pos (by omega)]
    simp

end Pl
end Go.Proofs.YtkmljelgogcobaaGreatDoor

namespace Go.Proofs.YtkmljelgogcobaaGreatDoor
namespace Pl

/-- What is known behind the first i states: the numbers of the cycles that have one of them. -/
def asL (f : Nat → Int) (i k : Nat) : Int := if f k ∈ dist (fl i f) then ((dist (fl i f)).idxOf (f k) : Int) else -1
section
variable {f : Nat → Int} {i k n : Nat}
theorem fl_snoc (i : Nat) (f : Nat → Int) : fl (i + 1) f = fl i f ++ [f i] := by simp [fl, List.range_succ]
theorem dist_fl_snoc (i : Nat) (f : Nat → Int) : dist (fl (i + 1) f) = addN (dist (fl i f)) (f i) := by rw [fl_snoc, dist_snoc]
theorem asL_zero : asL f 0 k = -1 := by simp [asL, fl, dist]
theorem asL_neg : asL f i k < 0 ↔ f k ∉ dist (fl i f) := by
  unfold asL
  by_cases h : f k ∈ dist (fl i f)
  · rw [if_pos h]; simp [h]
  · rw [if_neg h]; simp [h]
theorem asL_skip (h : ¬ asL f i i < 0) : dist (fl (i + 1) f) = dist (fl i f) ∧ ∀ k, asL f (i + 1) k = asL f i k := by
  have h1 : f i ∈ dist (fl i f) := Classical.byContradiction fun e => h (asL_neg.2 e)
  have h2 : dist (fl (i + 1) f) = dist (fl i f) := by rw [dist_fl_snoc]; unfold addN; rw [if_pos h1]
  exact ⟨h2, fun k => by unfold asL; rw [h2]⟩
theorem asL_new (h : asL f i i < 0) : (dist (fl (i + 1) f)).length = (dist (fl i f)).length + 1 ∧ ∀ k, asL f (i + 1) k = if f k = f i then ((dist (fl i f)).length : Int) else asL f i k := by
  have h1 := asL_neg.1 h
  have h2 : dist (fl (i + 1) f) = dist (fl i f) ++ [f i] := by rw [dist_fl_snoc]; unfold addN; rw [if_neg h1]
  refine ⟨by rw [h2]; simp, fun k => ?_⟩
  unfold asL
  rw [h2]
  by_cases e : f k = f i
  · rw [if_pos e, e, if_pos (by simp)]
    rw [List.idxOf_append, if_neg h1]
    simp
  · rw [if_neg e]
    by_cases h3 : f k ∈ dist (fl i f)
    · rw [if_pos (by simp [h3]), if_pos h3, List.idxOf_append, if_pos h3]
    · rw [if_neg (by simp [h3, e]), if_neg h3]
theorem asL_end (hk : k < n) : asL f n k = clf n f k := by
  have : f k ∈ dist (fl n f) := (mem_dist _).2 (List.mem_iff_getElem?.2 ⟨k, fl_get f hk⟩)
  unfold asL clf
  rw [if_pos this]
theorem asL_rng : -1 ≤ asL f i k ∧ asL f i k ≤ (i : Int) := by
  unfold asL
  by_cases h : f k ∈ dist (fl i f)
  · rw [if_pos h]
    have h1 := List.idxOf_lt_length_iff.2 h
    have h2 := dist_len (fl i f)
    rw [fl_len] at h2
    omega
  · rw [if_neg h]; omega
end

theorem OrdL.full {t : Lts} {m : Nat} {D : List Nat} (h : OrdL t m D) (ha : ∀ k, k < m → k ∈ D) : D.length = m := by
  have h1 := nodup_sub D (List.range m) h.nodup (fun x hx => List.mem_range.2 (h.rng x hx))
  have h2 := nodup_sub (List.range m) D List.nodup_range (fun x hx => ha x (List.mem_range.1 hx))
  rw [List.length_range] at h1 h2
  omega
theorem OrdL.len_le {t : Lts} {m : Nat} {D : List Nat} (h : OrdL t m D) : D.length ≤ m := by
  have h1 := nodup_sub D (List.range m) h.nodup (fun x hx => List.mem_range.2 (h.rng x hx))
  rwa [List.length_range] at h1
theorem OrdL.left {t : Lts} {m : Nat} {D : List Nat} (_ : OrdL t m D) (hl : D.length < m) : ∃ x, x < m ∧ x ∉ D := by
  refine Classical.byContradiction fun hc => ?_
  have h2 := nodup_sub (List.range m) D List.nodup_range (fun x hx => Classical.byContradiction fun h => hc ⟨x, List.mem_range.1 hx, h⟩)
  rw [List.length_range] at h2
  omega
/-- The next one, as the document looks for it: the first that does not stand and of whose silent steps all do. -/
theorem isNext_iff {t : Lts} (hr : t.Right) (hs : Srt ltE t.es) {m : Nat} {D : List Nat} {k : Nat} (hk : k < m) (h1 : k ∉ D) (h2 : ∀ y, tau t k y → y ∈ D) (h3 : ∀ j, j < k → j ∈ D ∨ ∃ y, tau t j y ∧ y ∉ D) : IsNext t m D k :=
  ⟨hk, h1, (Wt_zero hr hs).2 h2, fun j hj => (h3 j hj).imp id (fun ⟨y, hy, hn⟩ e => hn ((Wt_zero hr hs).1 e y hy))⟩
end Pl
end Go.Proofs.YtkmljelgogcobaaGreatDoor

namespace Go.Proofs.YtkmljelgogcobaaGreatDoor
namespace Pl

/-- The silent steps of s, from q on. -/
def tauOf (s : Lts) (q : Int) : Lts := ⟨s.st, s.lb, q, s.es.filter (fun x => x.2.1 == 0)⟩
theorem tauOf_right {s : Lts} (h : s.Right) {q : Int} (h0 : 0 ≤ q) (h1 : q < s.st) : (tauOf s q).Right := by
  have hr := h.st0
  refine ⟨?_, fun x hx => h.edges x (List.mem_filter.1 hx).1⟩
  unfold HeadBad tauOf
  have := List.length_filter_le (fun x : E => x.2.1 == 0) s.es
  simp only
  omega
theorem mem_tauOf {s : Lts} {q x : Int} {y : S} : y ∈ (tauOf s q).outs x ↔ y ∈ s.outs x ∧ y.1 = 0 := by
  rw [mem_outs, mem_outs]
  unfold tauOf
  simp
end Pl
end Go.Proofs.YtkmljelgogcobaaGreatDoor

namespace Go.Proofs.YtkmljelgogcobaaGreatDoor
namespace Pl
def turnE (x : E) : E := (x.2.2, x.2.1, x.1)
def backS (s : Lts) : Lts := ⟨s.st, s.lb, s.s0, s.es.map turnE⟩
section
variable {s : Lts}
theorem mem_backS {x : E} : x ∈ (backS s).es ↔ turnE x ∈ s.es := by
  unfold backS
  simp only [List.mem_map]
  constructor
  · rintro ⟨y, hy, rfl⟩; exact hy
  · intro h; exact ⟨_, h, rfl⟩
theorem backS_right (h : s.Right) : (backS s).Right := by
  refine ⟨?_, fun x hx => ?_⟩
  · have := h.head
    unfold backS
    simpa using this
  · have h1 := offB_false.1 (h.edges _ (mem_backS.1 hx))
    refine offB_false.2 ?_
    simp only [turnE] at h1
    show 0 ≤ x.1 ∧ x.1 < s.st ∧ 0 ≤ x.2.1 ∧ x.2.1 < s.lb ∧ 0 ≤ x.2.2 ∧ x.2.2 < s.st
    omega
theorem tr_backS {p q : Nat} : TR (backS s) p q ↔ TR s q p := by
  constructor
  · intro h
    induction h with
    | refl => exact .refl
    | tail _ h2 ih => exact (TR.one (mem_backS.1 h2)).trans ih
  · intro h
    induction h with
    | refl => exact .refl
    | tail _ h2 ih => exact (TR.one (s := backS s) (mem_backS.2 h2)).trans ih
end
end Pl
end Go.Proofs.YtkmljelgogcobaaGreatDoor

namespace Go.Proofs.YtkmljelgogcobaaGreatDoor
open Go.RowKit Pl

theorem faultNew_any (s : ByteArray) (t : TypeId) (v : Value) (w : World) : Calls Tryz.prog 125 #[.string s, .iface t v] w fun e w' =>
    e = .returned (.iface 131 (.pointer (some ⟨w.heap.size, 0, none⟩))) ∧ w' = w.alloc (.cells #[.string s, .int .i64 0, .int .i64 0, .iface t v] 134) := by
  go_enter Tryz.func125, Tryz.ntmps125
  go_wp2
  go_ret
  exact ⟨rfl, rfl⟩

/-- A package-level error: a pointer. -/
structure GErr (g : Nat) (p : Addr) (w : World) : Prop where
  lt : g < w.heap.size
  cell : w.cell? ⟨g, 0, none⟩ = some (.iface 248 (.pointer (some p)))

theorem GErr.below {g : Nat} {p : Addr} {w w' : World} (h : GErr g p w) (hB : Below w.heap.size w w') : GErr g p w' :=
  ⟨Nat.lt_of_lt_of_le h.lt hB.size, by rw [hB.cell (p := ⟨g, 0, none⟩) h.lt]; exact h.cell⟩

/-- A fault of a layer, without a place. -/
structure FaultAt (w : World) (v : Value) (layer : ByteArray) (inner : Value) : Prop where
  ex : ∃ b, v = .iface 131 (.pointer (some ⟨b, 0, none⟩)) ∧ w.heap[b]? = some (.cells #[.string layer, .int .i64 0, .int .i64 0, inner] 134 (0, 0))

theorem offends_any (st lb s0 : Int) (es : Value) (x : E) (w : World) :
    Calls Tryz.prog 126 #[.agg #[.int .i64 st, .int .i64 lb, .int .i64 s0, es], .agg #[.int .i64 x.1, .int .i64 x.2.1, .int .i64 x.2.2]] w fun e w' =>
      e = .returned (.bool (offB st lb x)) ∧ Below w.heap.size w w' := by
  unfold offB
  go_enter Tryz.func126, Tryz.ntmps126
  go_wp2
  all_goals (go_ret; exact ⟨by simp [*]; try omega, ((Below.refl _ _).alloc (Nat.le_refl _) _).alloc (by simp) _⟩)

set_option maxRecDepth 100000 in
set_option maxHeartbeats 1000000 in
theorem check_head {p : Addr} (st lb s0 : Int) (a : Option Addr) (n c : Nat) (w : World) (hG : GErr 0 p w) (h : HeadBad st lb s0 n) :
    Calls Tryz.prog 63 #[.agg #[.int .i64 st, .int .i64 lb, .int .i64 s0, .slice a n c]] w fun e w' => ∃ v, e = .returned v ∧ FaultAt w' v ⟨#[115, 121, 115, 116, 101, 109]⟩ (.iface 248 (.pointer (some p))) ∧ Below w.heap.size w w' := by
  unfold HeadBad at h
  have hg := hG.cell
  have hlt := hG.lt
  go_enter Tryz.func63, Tryz.ntmps63
  go_wp2_with (go_at_call 125; refine (faultNew_any _ _ _ _).mono ?_; rintro e w1 ⟨rfl, rfl⟩)
  all_goals (go_ret; exact ⟨_, rfl, ⟨w.heap.size + 1, rfl, by simpa using heap_alloc_new (w.alloc (.cells #[.int .i64 st, .int .i64 lb, .int .i64 s0, .slice a n c] 24)) (.cells #[.string ⟨#[115, 121, 115, 116, 101, 109]⟩, .int .i64 0, .int .i64 0, .iface 248 (.pointer (some p))] 134)⟩, ((Below.refl _ _).alloc (Nat.le_refl _) _).alloc (by simp) _⟩)

/-- What system.Check answers where the head is right. -/
def CheckPost (st lb : Int) (xs : List E) (p : Addr) (e : Ending) (w' : World) : Prop :=
  if xs.all (fun x => !offB st lb x) then e = .returned .nilIface else ∃ v, e = .returned v ∧ FaultAt w' v ⟨#[115, 121, 115, 116, 101, 109]⟩ (.iface 248 (.pointer (some p)))

set_option maxRecDepth 100000 in
set_option maxHeartbeats 1000000 in
/-- system.Check, the head of the system being right. -/
theorem check_body {p : Addr} (st lb s0 : Int) (a : Option Addr) (b off c : Nat) (xs : List E) (w : World) (hG : GErr 0 p w) (h : ¬ HeadBad st lb s0 xs.length) (hS : SlAt encE 3 w a b off xs) :
    Calls Tryz.prog 63 #[.agg #[.int .i64 st, .int .i64 lb, .int .i64 s0, .slice a xs.length c]] w fun e w' =>
      CheckPost st lb xs p e w' ∧ Below w.heap.size w w' := by
  unfold HeadBad at h
  have hg := hG.cell
  have hlt := hG.lt
  obtain ⟨h1, h2, h3, h4, h5, h6, h7⟩ : 0 ≤ st ∧ st ≤ 1000 ∧ 1 ≤ lb ∧ lb ≤ 201 ∧ 0 ≤ s0 ∧ (s0 = 0 ∨ s0 < st) ∧ (xs.length : Int) ≤ 10000 := by omega
  clear h
  obtain ⟨C, hC⟩ : ∃ C, C = Obj.cells #[.int .i64 st, .int .i64 lb, .int .i64 s0, .slice a xs.length c] 24 := ⟨_, rfl⟩
  obtain ⟨F, hF⟩ : ∃ F, F = Obj.cells #[.string ⟨#[115, 121, 115, 116, 101, 109]⟩, .int .i64 0, .int .i64 0, .iface 248 (.pointer (some p))] 134 := ⟨_, rfl⟩
  have HC := Lib.hid hC; have HF := Lib.hid hF
  clear hC hF
  go_enter Tryz.func63, Tryz.ntmps63
  go_wp2_with (go_at_call 125; refine (faultNew_any _ _ _ _).mono ?_; rintro e w1 ⟨rfl, rfl⟩)
  all_goals
    rw [← HC.out, ← HF.out]
    go_loopw [5, 54] (fun _ i wr => ∃ k : Nat, k ≤ xs.length ∧ i = .int .i64 k ∧ (∀ j x, j < k → xs[j]? = some x → offB st lb x = false) ∧ Below (w.heap.size + 2) ((w.alloc C).alloc F) wr)
      (fun _ i _ => xs.length - (intOf i).toNat)
    case atStart => exact ⟨0, Nat.zero_le _, rfl, by intro j x hj; omega, Below.refl _ _⟩
    case round =>
      obtain ⟨k, hk, rfl, hz, hB⟩ := hrel
      have HZ := Lib.hid hz; clear hz
      have hsz : w.heap.size + 2 ≤ wr.heap.size := by simpa using hB.size
      have q0 : wr.heap[w.heap.size]? = some C := by
        rw [hB.block _ (by omega), Below.heap_alloc _ _ _ (by simp), heap_alloc_new]
      have q1 : wr.heap[w.heap.size + 1]? = some F := by
        rw [hB.block _ (by omega)]; simpa using heap_alloc_new (w.alloc C) F
      rw [HC.out] at q0; rw [HF.out] at q1
      have s0' : wr.cell? ⟨w.heap.size, 0, none⟩ = some (.int .i64 st) := by simp [World.cell?, q0]
      have s1' : wr.cell? ⟨w.heap.size, 1, none⟩ = some (.int .i64 lb) := by simp [World.cell?, q0]
      have s2' : wr.cell? ⟨w.heap.size, 2, none⟩ = some (.int .i64 s0) := by simp [World.cell?, q0]
      have s3' : wr.cell? ⟨w.heap.size, 3, none⟩ = some (.slice a xs.length c) := by simp [World.cell?, q0]
      have Q1 := Lib.hid q1
      have hBw : Below w.heap.size w wr := (((Below.refl _ _).alloc (Nat.le_refl _) C).alloc (by simp) F).trans (hB.mono (by omega))
      have hltr : w.heap.size < wr.heap.size := by omega
      clear q0 q1
      by_cases hlt2 : k < xs.length
      · obtain ⟨x, hx⟩ := getElem?_of_lt hlt2
        obtain rfl := hS.ad (by omega)
        have hS' := hS.below hBw (Nat.le_refl _)
        have c0 := hS'.e0 hx; have c1 := hS'.e1 hx; have c2 := hS'.e2 hx
        have hbl := hS'.lt (by omega)
        have HX := Lib.hid hx
        have HS := Lib.hid hS
        clear hx hS hS' hg
        by_cases ho : offB st lb x = true
        · have HO := Lib.hid ho
          go_wp2_with (go_at_call 126; refine (offends_any st lb s0 _ x _).mono ?_; rintro e w1 ⟨rfl, hB1⟩)
          go_ret
          have hall : xs.all (fun x => !offB st lb x) = false := by
            rw [List.all_eq_false]
            exact ⟨x, List.mem_of_getElem? HX.out, by simp [HO.out]⟩
          have hB2 := (hB.alloc hsz _).trans (hB1.mono (by simp; omega))
          refine ⟨by unfold CheckPost; rw [hall]; exact ⟨_, rfl, ⟨w.heap.size + 1, rfl, by rw [hB2.block _ (by omega), ← HF.out]; simpa using heap_alloc_new (w.alloc C) F⟩⟩, (((Below.refl _ _).alloc (Nat.le_refl _) C).alloc (by simp) F).trans (hB2.mono (by omega))⟩
        · have ho' : offB st lb x = false := by simpa using ho
          have HO := Lib.hid ho'
          clear ho
          go_wp2_with (go_at_call 126; refine (offends_any st lb s0 _ x _).mono ?_; rintro e w1 ⟨rfl, hB1⟩)
          go_roundw
          case rel => exact ⟨k + 1, by omega, by go_num, by
            intro j y hj hy
            by_cases hjk : j = k
            · subst hjk
              rw [HX.out] at hy
              simp at hy; subst hy
              exact HO.out
            · exact HZ.out j y (by omega) hy, (hB.alloc hsz _).trans (hB1.mono (by simp; omega))⟩
          case measure => simp [intOf]; omega
      · clear hS hg
        go_wp2
        go_ret
        have hall : xs.all (fun x => !offB st lb x) = true := by
          rw [List.all_eq_true]
          intro x hx
          obtain ⟨j, hj, rfl⟩ := List.getElem_of_mem hx
          simp [HZ.out j _ (by omega) (List.getElem?_eq_getElem hj)]
        exact ⟨by unfold CheckPost; rw [hall]; rfl, hBw⟩

end Go.Proofs.YtkmljelgogcobaaGreatDoor

namespace Go.Proofs.YtkmljelgogcobaaGreatDoor
open Go.RowKit Go.Extern.Stop Go.Stop Go.Extern Pl

/-! closed facts: what TypeOf(target).Comparable() gives at such a target; what the assertions find -/
theorem isTypeOf (v : Value) (w : World) : (callFunc 181 #[.iface 248 v]).run Tryz.prog w = .ok (.value (.iface 229 (.agg #[.pointer (some ⟨20, 248, none⟩)]))) w := by kernel_rfl
theorem isComparable (w : World) : (callFunc 219 #[.agg #[.pointer (some ⟨20, 248, none⟩)]]).run Tryz.prog w = .ok (.value (.bool true)) w := by kernel_rfl
theorem isMethodComparable (v : Value) (w : World) : (Go.method 380 229 v "Comparable").run Tryz.prog w = .ok (219, v) w := by kernel_rfl
theorem isComp : (Tryz.prog.info? 248).map (·.comparable) = some true := by kernel_rfl
theorem isSize : (Tryz.prog.info? 268).map (·.size) = some 1 := by kernel_rfl
theorem noIsE (v : Value) (xT : TypeId) (w : World) : (Instr.typeAssert (.iface 248 v) xT 241 true).run Tryz.prog w = .ok (.tuple #[.nilIface, .bool false]) w := run_typeAssert_lacksB Tryz.underlying241 (by kernel_rfl) (by kernel_rfl) v xT w
theorem noUnwrapE (v : Value) (xT : TypeId) (w : World) : (Instr.typeAssert (.iface 248 v) xT 236 true).run Tryz.prog w = .ok (.tuple #[.nilIface, .bool false]) w := run_typeAssert_lacksB Tryz.underlying236 (by kernel_rfl) (by kernel_rfl) v xT w
theorem noUnwrapsE (v : Value) (xT : TypeId) (w : World) : (Instr.typeAssert (.iface 248 v) xT 238 true).run Tryz.prog w = .ok (.tuple #[.nilIface, .bool false]) w := run_typeAssert_lacksB Tryz.underlying238 (by kernel_rfl) (by kernel_rfl) v xT w
theorem noIsW (v : Value) (xT : TypeId) (w : World) : (Instr.typeAssert (.iface 131 v) xT 241 true).run Tryz.prog w = .ok (.tuple #[.nilIface, .bool false]) w := run_typeAssert_lacksB Tryz.underlying241 (by kernel_rfl) (by kernel_rfl) v xT w
theorem hasUnwrapW (v : Value) (xT : TypeId) (w : World) : (Instr.typeAssert (.iface 131 v) xT 236 true).run Tryz.prog w = .ok (.tuple #[.iface 131 v, .bool true]) w := run_typeAssert_hasB Tryz.underlying236 (by kernel_rfl) v xT w
theorem methodUnwrap (v : Value) (w : World) : (Go.method 380 131 v "Unwrap").run Tryz.prog w = .ok (213, v) w := by kernel_rfl

/-- (*Fault).Unwrap. -/
theorem unwrap_any {b : Nat} {inner : Value} {w : World} (h : w.cell? ⟨b, 3, none⟩ = some inner) :
    Calls Tryz.prog 213 #[.pointer (some ⟨b, 0, none⟩)] w fun e w' => e = .returned inner ∧ w = w' := by
  go_enter Tryz.func213, Tryz.ntmps213
  go_wp2
  go_ret
  exact ⟨rfl, rfl⟩

/-- errors.Is(nil, x). -/
theorem is_nil (b : Addr) (w : World) :
    Calls Tryz.prog 151 #[.nilIface, .iface 248 (.pointer (some b))] w fun e w' => e = .returned (.bool false) ∧ w = w' := by
  have hn := run_eql_iface_nil_left (P := Tryz.prog) w 248 (.pointer (some b)) Tryz.underlying28
  go_enter Tryz.func151, Tryz.ntmps151
  go_wp2
  go_ret
  exact ⟨rfl, rfl⟩

set_option maxRecDepth 100000 in
/-- errors.Is(a fault that wraps x itself, x). -/
theorem is_fault_same (pb : Nat) (b : Addr) (w : World) (h1 : w.cell? ⟨pb, 3, none⟩ = some (.iface 248 (.pointer (some b)))) :
    Calls Tryz.prog 151 #[.iface 131 (.pointer (some ⟨pb, 0, none⟩)), .iface 248 (.pointer (some b))] w fun e w' => e = .returned (.bool true) ∧ w = w' := by
  obtain ⟨i, hi, hcmp⟩ := Option.map_eq_some_iff.1 isComp
  obtain ⟨j, hj, hjs⟩ := Option.map_eq_some_iff.1 isSize
  have tT := isTypeOf
  have cT := isComparable
  have mR := isMethodComparable
  have nE := noIsE
  have uE := noUnwrapE
  have vE := noUnwrapsE
  have nW := noIsW
  have uW := hasUnwrapW
  have mU := methodUnwrap
  have heq := run_eql_iface_ptr_same (P := Tryz.prog) w b Tryz.underlying28 Tryz.underlying248 hi hcmp hj
  have hty := run_eql_iface_types (P := Tryz.prog) 131 248 (.pointer (some ⟨pb, 0, none⟩)) (.pointer (some b)) Tryz.underlying28 (by decide) w
  go_enter Tryz.func151, Tryz.ntmps151
  go_wp2
  refine wp_loop_rounds 2 ?_
  rw [rounds_succ]
  go_wp2
  rw [rounds_succ]
  go_wp2
  go_ret
  exact ⟨rfl, rfl⟩

set_option maxRecDepth 100000 in
/-- errors.Is(a fault that wraps another error, x). -/
theorem is_fault_other (pb : Nat) (b a : Addr) (ca cb : Array Value) (ta tb : TypeId) (w : World) (h1 : w.cell? ⟨pb, 3, none⟩ = some (.iface 248 (.pointer (some a)))) (hne : a ≠ b) (ha : w.heap[a.block]? = some (.cells ca ta (0, 0))) (hb : w.heap[b.block]? = some (.cells cb tb (0, 0))) :
    Calls Tryz.prog 151 #[.iface 131 (.pointer (some ⟨pb, 0, none⟩)), .iface 248 (.pointer (some b))] w fun e w' => e = .returned (.bool false) ∧ w = w' := by
  obtain ⟨i, hi, hcmp⟩ := Option.map_eq_some_iff.1 isComp
  obtain ⟨j, hj, hjs⟩ := Option.map_eq_some_iff.1 isSize
  have tT := isTypeOf
  have cT := isComparable
  have mR := isMethodComparable
  have nE := noIsE
  have uE := noUnwrapE
  have vE := noUnwrapsE
  have nW := noIsW
  have uW := hasUnwrapW
  have mU := methodUnwrap
  have heq := run_eql_iface_ptr_other (P := Tryz.prog) w Tryz.underlying28 Tryz.underlying248 hi hcmp hj (by rw [hjs]; decide) hne ha hb
  have hty := run_eql_iface_types (P := Tryz.prog) 131 248 (.pointer (some ⟨pb, 0, none⟩)) (.pointer (some b)) Tryz.underlying28 (by decide) w
  go_enter Tryz.func151, Tryz.ntmps151
  go_wp2
  refine wp_loop_rounds 2 ?_
  rw [rounds_succ]
  go_wp2
  rw [rounds_succ]
  go_wp2
  go_ret
  exact ⟨rfl, rfl⟩
end Go.Proofs.YtkmljelgogcobaaGreatDoor

namespace Go.Proofs.YtkmljelgogcobaaGreatDoor
open Go.RowKit Pl

theorem slAt_sub {α : Type} {enc : α → List Value} {k : Nat} {w : World} {a : Option Addr} {b off : Nat} {xs : List α} (h : SlAt enc k w a b off xs) (lo m : Nat) :
    SlAt enc k w (some ⟨b, off + lo * k, none⟩) b (off + lo * k) ((xs.drop lo).take m) where
  ad _ := rfl
  lt hl := h.lt (by simp at hl; omega)
  cell i x hx j u hu := by
    rw [List.getElem?_take] at hx
    split at hx
    · rw [List.getElem?_drop] at hx
      have := h.cell (lo + i) x hx j u hu
      rw [Nat.add_mul] at this
      rw [show off + lo * k + i * k + j = off + (lo * k + i * k) + j by omega]
      exact this
    · cases hx

/-- The rows of a graph, in memory: all the steps, and from where on each row lies. -/
structure RowsAt (w : World) (va vf : Value) (n : Nat) (all : List S) (fr : Nat → Nat) : Prop where
  alls : ∃ a c b off, va = .slice a all.length c ∧ all.length ≤ c ∧ c ≤ maxLen ∧ SlAt encS 2 w a b off all
  from_ : ∃ b, vf = .slice (some ⟨b, 0, none⟩) (n + 1) (n + 1) ∧ b < w.heap.size ∧ ∀ i, i ≤ n → w.cell? ⟨b, i, none⟩ = some (.int .i64 (fr i))
  mono : ∀ i, i < n → fr i ≤ fr (i + 1)
  top : ∀ i, i ≤ n → fr i ≤ all.length
  small : all.length ≤ 10000
  n_le : n ≤ 1000

def rowOf (all : List S) (fr : Nat → Nat) (i : Nat) : List S := (all.drop (fr i)).take (fr (i + 1) - fr i)

theorem RowsAt.below {w w' : World} {va vf : Value} {n : Nat} {all : List S} {fr : Nat → Nat} (h : RowsAt w va vf n all fr) (hB : Below w.heap.size w w') : RowsAt w' va vf n all fr := by
  obtain ⟨a, c, b, off, h1, h2, h3, h4⟩ := h.alls
  obtain ⟨b', h5, h6, h7⟩ := h.from_
  exact ⟨⟨a, c, b, off, h1, h2, h3, h4.below hB (Nat.le_refl _)⟩, ⟨b', h5, Nat.lt_of_lt_of_le h6 hB.size, fun i hi => by rw [hB.cell (p := ⟨b', i, none⟩) h6]; exact h7 i hi⟩, h.mono, h.top, h.small, h.n_le⟩

/-- What a call answers: a list of steps that is read at some place. -/
def StepsRet (w' : World) (e : Ending) (ss : List S) : Prop := ∃ a c b off, e = .returned (.slice a ss.length c) ∧ ss.length ≤ c ∧ c ≤ maxLen ∧ SlAt encS 2 w' a b off ss

theorem stepsRet_nil {w' : World} : StepsRet w' (.returned (.slice none 0 0)) [] := ⟨none, 0, 0, 0, rfl, Nat.le_refl _, by unfold maxLen; omega, slAt_nil _ _ _ _⟩

set_option maxRecDepth 100000 in
theorem row_out {w0 w : World} (va vf : Value) {n : Nat} {all : List S} {fr : Nat → Nat} (h : RowsAt w0 va vf n all fr) (_hB : Below w0.heap.size w0 w) (i : Int) (hi : i < 0 ∨ (n : Int) ≤ i) :
    Calls Tryz.prog 123 #[.agg #[va, vf], .int .i64 i] w fun e w' => StepsRet w0 e [] ∧ Below w.heap.size w w' := by
  obtain ⟨a, c, b, off, rfl, h2, h3, h4⟩ := h.alls
  obtain ⟨b', rfl, h6, h7⟩ := h.from_
  have hn := h.n_le
  clear h h4 h7 _hB
  rcases hi with hi | hi
  · go_enter Tryz.func123, Tryz.ntmps123
    go_wp2
    go_ret
    exact ⟨stepsRet_nil, (Below.refl _ _).alloc (Nat.le_refl _) _⟩
  · have hi0 : ¬ i < 0 := by omega
    go_enter Tryz.func123, Tryz.ntmps123
    go_wp2
    go_ret
    exact ⟨stepsRet_nil, (Below.refl _ _).alloc (Nat.le_refl _) _⟩

set_option maxRecDepth 100000 in
theorem row_in {w0 w : World} (va vf : Value) {n : Nat} {all : List S} {fr : Nat → Nat} (h : RowsAt w0 va vf n all fr) (hB : Below w0.heap.size w0 w) (i : Nat) (hi : i < n) :
    Calls Tryz.prog 123 #[.agg #[va, vf], .int .i64 i] w fun e w' => StepsRet w0 e (rowOf all fr i) ∧ Below w.heap.size w w' := by
  obtain ⟨a, c, b, off, rfl, h2, h3, h4⟩ := h.alls
  obtain ⟨b', rfl, h6, h7⟩ := h.from_
  have hn := h.n_le
  have c0 : w.cell? ⟨b', i, none⟩ = _ := (hB.cell (p := ⟨b', i, none⟩) h6).trans (h7 i (by omega))
  have c1 : w.cell? ⟨b', i + 1, none⟩ = _ := (hB.cell (p := ⟨b', i + 1, none⟩) h6).trans (h7 (i + 1) (by omega))
  replace h6 : b' < w.heap.size := Nat.lt_of_lt_of_le h6 hB.size
  have hm := h.mono i hi
  have ht := h.top (i + 1) (by omega)
  have hs := h.small
  unfold rowOf
  generalize fr i = lo at *
  generalize fr (i + 1) = hi' at *
  have hlen : ((all.drop lo).take (hi' - lo)).length = hi' - lo := by simp; omega
  have k1 : (i : Int) < (n : Int) := by omega
  have k2 : (0 : Int) ≤ (i : Int) + 1 := by omega
  have k6 : (i : Int) < (n : Int) + 1 := by omega
  have k3 : IntKind.i64.wrap ((i : Int) + 1) = (i : Int) + 1 := IntWalk.i64_in _ (by omega)
  have k4 : ((i : Int) + 1).toNat = i + 1 := by omega
  have k7 : (lo : Int) ≤ (hi' : Int) := by omega
  have k8 : (hi' : Int) ≤ (c : Int) := by omega
  by_cases heq : lo = hi'
  · subst heq
    have hrow : (all.drop lo).take (lo - lo) = [] := by simp
    rw [hrow]
    clear h h4 h7 hlen hrow hB
    go_enter Tryz.func123, Tryz.ntmps123
    go_wp2_with fail
    go_quiet (fail)
    go_wp2
    all_goals
      go_ret
      exact ⟨⟨a, _, 0, 0, rfl, Nat.le_refl _, by unfold maxLen; omega, slAt_nil _ _ _ _⟩, below_drewN ((Below.refl _ _).alloc (Nat.le_refl _) _) _⟩
  · obtain rfl := h4.ad (by omega)
    have k9 : (lo : Int) < (hi' : Int) := by omega
    have k10 : (lo : Int) < (c : Int) := by omega
    have k11 : lo < hi' := by omega
    have H4 := Lib.hid h4; have HL := Lib.hid hlen
    clear h h4 h7 hlen hB
    go_enter Tryz.func123, Tryz.ntmps123
    go_wp2_with fail
    go_quiet (fail)
    go_wp2
    go_ret
    refine ⟨⟨some ⟨b, off + lo * 2, none⟩, hi' - lo, b, off + lo * 2, ?_, by rw [HL.out]; exact Nat.le_refl _, by omega, slAt_sub H4.out lo (hi' - lo)⟩, below_drewN ((Below.refl _ _).alloc (Nat.le_refl _) _) _⟩
    rw [HL.out]
    first | rfl | (simp; done)
end Go.Proofs.YtkmljelgogcobaaGreatDoor

namespace Go.Proofs.YtkmljelgogcobaaGreatDoor
open Go.RowKit Pl

def stO (x : E) : S := (x.2.1, x.2.2)
def stI (x : E) : S := (x.2.1, x.1)

/-- A graph's block: the system s, its edges in order, and the rows. -/
structure GraphAt (w : World) (gb : Nat) (s : Lts) : Prop where
  right : s.Right
  srt : Srt ltE s.es
  blk : ∃ ve oa of ia if_ : Value, w.heap[gb]? = some (.cells #[.int .i64 s.st, .int .i64 s.lb, .int .i64 s.s0, ve, oa, of, ia, if_] 88 (0, 0)) ∧
    (∃ a c b off, ve = .slice a s.es.length c ∧ s.es.length ≤ c ∧ SlAt encE 3 w a b off s.es) ∧
    RowsAt w oa of s.st.toNat (s.es.map stO) (frK (fun x => x.1) s.es) ∧
    RowsAt w ia if_ s.st.toNat ((nf ltB s.es).map stI) (frK (fun x => x.2.2) (nf ltB s.es))

theorem GraphAt.lt {w : World} {gb : Nat} {s : Lts} (h : GraphAt w gb s) : gb < w.heap.size := by
  obtain ⟨ve, oa, of, ia, if_, h1, _⟩ := h.blk
  exact (Array.getElem?_eq_some_iff.1 h1).1

theorem GraphAt.below {w w' : World} {gb : Nat} {s : Lts} (h : GraphAt w gb s) (hB : Below w.heap.size w w') : GraphAt w' gb s := by
  obtain ⟨ve, oa, of, ia, if_, h1, ⟨a, c, b, off, h2, h2', h3⟩, h4, h5⟩ := h.blk
  exact ⟨h.right, h.srt, ve, oa, of, ia, if_, by rw [hB.block _ h.lt]; exact h1, ⟨a, c, b, off, h2, h2', h3.below hB (Nat.le_refl _)⟩, h4.below hB, h5.below hB⟩

theorem rowOf_map (key : E → Int) (f : E → S) (l : List E) (h : l.Pairwise (fun a b => key a ≤ key b)) (i : Nat) : rowOf (l.map f) (frK key l) i = (l.filter (fun x => key x == (i : Int))).map f := by
  unfold rowOf
  rw [← List.map_drop, ← List.map_take]
  congr 1
  exact piece i l h

theorem outs_out {s : Lts} (h : s.Right) {i : Int} (hi : i < 0 ∨ s.st ≤ i) : s.outs i = [] := by
  unfold Lts.outs
  have : s.es.filter (fun x => x.1 == i) = [] := by
    rw [List.filter_eq_nil_iff]; intro x hx
    have := offB_false.1 (h.edges x hx)
    simp; omega
  rw [this]; rfl
theorem ins_out {s : Lts} (h : s.Right) {i : Int} (hi : i < 0 ∨ s.st ≤ i) : s.ins i = [] := by
  unfold Lts.ins
  have : (nf ltB s.es).filter (fun x => x.2.2 == i) = [] := by
    rw [List.filter_eq_nil_iff]; intro x hx
    have := offB_false.1 (h.edges x ((mem_nf stoB x s.es).1 hx))
    simp; omega
  rw [this]; rfl

theorem row_outs {w0 w : World} (hB : Below w0.heap.size w0 w) {va vf : Value} {s : Lts} (hr : s.Right) (hs : Srt ltE s.es) (h : RowsAt w0 va vf s.st.toNat (s.es.map stO) (frK (fun x => x.1) s.es)) (i : Int) :
    Calls Tryz.prog 123 #[.agg #[va, vf], .int .i64 i] w fun e w' => StepsRet w0 e (s.outs i) ∧ Below w.heap.size w w' := by
  have h0 := hr.st0
  by_cases hi : i < 0 ∨ s.st ≤ i
  · rw [outs_out hr hi]
    exact row_out va vf h hB i (by omega)
  · obtain ⟨n, rfl⟩ := Int.eq_ofNat_of_zero_le (show 0 ≤ i by omega)
    have := row_in va vf h hB n (by omega)
    rw [rowOf_map (fun x => x.1) stO s.es (srtE_key hs)] at this
    exact this
theorem row_ins {w0 w : World} (hB : Below w0.heap.size w0 w) {va vf : Value} {s : Lts} (hr : s.Right) (h : RowsAt w0 va vf s.st.toNat ((nf ltB s.es).map stI) (frK (fun x => x.2.2) (nf ltB s.es))) (i : Int) :
    Calls Tryz.prog 123 #[.agg #[va, vf], .int .i64 i] w fun e w' => StepsRet w0 e (s.ins i) ∧ Below w.heap.size w w' := by
  have h0 := hr.st0
  by_cases hi : i < 0 ∨ s.st ≤ i
  · rw [ins_out hr hi]
    exact row_out va vf h hB i (by omega)
  · obtain ⟨n, rfl⟩ := Int.eq_ofNat_of_zero_le (show 0 ≤ i by omega)
    have := row_in va vf h hB n (by omega)
    rw [rowOf_map (fun x => x.2.2) stI (nf ltB s.es) (srtB_key (srt_nf stoB _))] at this
    exact this

set_option maxRecDepth 100000 in
theorem each_any {w0 w : World} {gb : Nat} {s : Lts} (h : GraphAt w0 gb s) (hB0 : Below w0.heap.size w0 w) (i : Int) :
    Calls Tryz.prog 58 #[.pointer (some ⟨gb, 0, none⟩), .int .i64 i] w fun e w' => StepsRet w0 e (s.outs i) ∧ Below w.heap.size w w' := by
  obtain ⟨ve, oa, of, ia, if_, h1, _, h4, _⟩ := h.blk
  have h1' := (hB0.block gb h.lt).trans h1
  have c4 : w.cell? ⟨gb, 4, none⟩ = some oa := by simp [World.cell?, h1']
  have c5 : w.cell? ⟨gb, 5, none⟩ = some of := by simp [World.cell?, h1']
  have hR := row_outs hB0 h.right h.srt h4 i
  have HR := Lib.hid hR
  clear h h1 h1' h4 hR hB0
  go_enter Tryz.func58, Tryz.ntmps58
  go_wp2_with (go_at_call 123; refine (HR.out).mono ?_; rintro e w1 ⟨⟨a, c, b, off, rfl, hrest⟩, hB⟩; have HREST := Lib.hid hrest; clear hrest)
  go_ret
  exact ⟨⟨a, c, b, off, rfl, HREST.out⟩, hB⟩

set_option maxRecDepth 100000 in
theorem back_any {w0 w : World} {gb : Nat} {s : Lts} (h : GraphAt w0 gb s) (hB0 : Below w0.heap.size w0 w) (i : Int) :
    Calls Tryz.prog 59 #[.pointer (some ⟨gb, 0, none⟩), .int .i64 i] w fun e w' => StepsRet w0 e (s.ins i) ∧ Below w.heap.size w w' := by
  obtain ⟨ve, oa, of, ia, if_, h1, _, _, h5⟩ := h.blk
  have h1' := (hB0.block gb h.lt).trans h1
  have c4 : w.cell? ⟨gb, 6, none⟩ = some ia := by simp [World.cell?, h1']
  have c5 : w.cell? ⟨gb, 7, none⟩ = some if_ := by simp [World.cell?, h1']
  have hR := row_ins hB0 h.right h5 i
  have HR := Lib.hid hR
  clear h h1 h1' h5 hR hB0
  go_enter Tryz.func59, Tryz.ntmps59
  go_wp2_with (go_at_call 123; refine (HR.out).mono ?_; rintro e w1 ⟨⟨a, c, b, off, rfl, hrest⟩, hB⟩; have HREST := Lib.hid hrest; clear hrest)
  go_ret
  exact ⟨⟨a, c, b, off, rfl, HREST.out⟩, hB⟩

end Go.Proofs.YtkmljelgogcobaaGreatDoor

namespace Go.Proofs.YtkmljelgogcobaaGreatDoor
open Go.RowKit Pl

theorem rowV : IsRow Tryz.prog 176 215 3 24 (.agg #[.int .i64 0, .int .i64 0, .int .i64 0]) := isRow_of Tryz.underlying176 (by kernel_rfl) rfl (by decide)

/-- The walk's own blocks: all apart, the stacks behind them. -/
structure Blk (b0 B WB LB NB IB CB : Nat) : Prop where
  lo : b0 ≤ WB ∧ b0 ≤ LB ∧ b0 ≤ NB ∧ b0 ≤ IB ∧ b0 ≤ CB ∧ b0 ≤ B
  hi : WB < B ∧ LB < B ∧ NB < B ∧ IB < B ∧ CB < B
  w : WB ≠ LB ∧ WB ≠ NB ∧ WB ≠ IB ∧ WB ≠ CB
  l : LB ≠ NB ∧ LB ≠ IB ∧ LB ≠ CB
  n : NB ≠ IB ∧ NB ≠ CB ∧ IB ≠ CB

structure TW (w0 wr : World) (B WB LB NB IB CB n : Nat) (gp : Value) (low num cls : Nat → Int) (iso : Nat → Bool) (met found : Int) (ol : List Int) (sl : List E) (vo vs : Value) : Prop where
  blk : Blk w0.heap.size B WB LB NB IB CB
  bel : Below w0.heap.size w0 wr
  bsz : B ≤ wr.heap.size
  wb : wr.heap[WB]? = some (.cells #[gp, .slice (some ⟨LB, 0, none⟩) n n, .slice (some ⟨NB, 0, none⟩) n n, vo, .slice (some ⟨IB, 0, none⟩) n n, .slice (some ⟨CB, 0, none⟩) n n, .int .i64 met, .int .i64 found, vs] 178 (0, 0))
  low : wr.rowIs LB 3 n (fun j => .int .i64 (low j))
  num : wr.rowIs NB 3 n (fun j => .int .i64 (num j))
  iso : wr.rowIs IB 4 n (fun j => .bool (iso j))
  cls : wr.rowIs CB 3 n (fun j => .int .i64 (cls j))
  opn : wr.ownsRow B 3 1 vo ol.length (ol.flatMap encI)
  stk : wr.ownsRow B 215 3 vs sl.length (sl.flatMap encE)
  dis : ∀ g, vo.ownBlock = some g → vs.ownBlock ≠ some g

theorem own_block {w w' : World} {base : Nat} {e : TypeId} {k n : Nat} {v : Value} {xs : List Value} (h : w.ownsRow base e k v n xs) (hb : ∀ g, v.ownBlock = some g → w'.heap[g]? = w.heap[g]?) : w'.ownsRow base e k v n xs := by
  refine ⟨h.1, ?_⟩
  rcases h.2 with h2 | ⟨g, cap, cur, hv, hbg, hg, r⟩
  · exact .inl h2
  · exact .inr ⟨g, cap, cur, hv, hbg, by rw [hb g (by rw [hv]; rfl)]; exact hg, r⟩

theorem own_set1 {w : World} {base : Nat} {e : TypeId} {k n : Nat} {v : Value} {xs : List Value} (h : w.ownsRow base e k v n xs) {p : Addr} (hp : ∀ g, v.ownBlock = some g → g ≠ p.block) (x : Value) : (w.setCell p x).ownsRow base e k v n xs :=
  own_block h (fun g hg => Below.heap_setCell _ _ _ _ (hp g hg))

/-- One element less, at the end. -/
theorem own_pop {w : World} {base : Nat} {e : TypeId} {k n m : Nat} {a : Option Addr} {c : Nat} {xs ys : List Value} (h : w.ownsRow base e k (.slice a n c) n xs) (hm : m ≤ n) (hx : ys = xs.take (m * k)) (hl : ys.length = m * k) (hp : 0 < n) :
    w.ownsRow base e k (.slice a m c) m ys := by
  refine ⟨hl, ?_⟩
  rcases h.2 with ⟨h2, h3⟩ | ⟨g, cap, cur, hv, hbg, hg, hnc, hcm, hcs, ht⟩
  · omega
  · simp only [Value.slice.injEq] at hv
    obtain ⟨rfl, _, rfl⟩ := hv
    refine .inr ⟨g, c, cur, rfl, hbg, hg, by omega, hcm, hcs, ?_⟩
    rw [hx, ← ht, List.take_take, Nat.min_eq_left (Nat.mul_le_mul_right k hm)]

section
variable {w0 wr w' : World} {B WB LB NB IB CB n : Nat} {gp : Value} {low num cls : Nat → Int} {iso : Nat → Bool} {met found : Int} {ol : List Int} {sl : List E} {vo vs : Value}

theorem TW.lts (h : TW w0 wr B WB LB NB IB CB n gp low num cls iso met found ol sl vo vs) : WB < wr.heap.size ∧ LB < wr.heap.size ∧ NB < wr.heap.size ∧ IB < wr.heap.size ∧ CB < wr.heap.size ∧ w0.heap.size ≤ wr.heap.size := by
  have := h.blk.hi; have := h.bsz; have := h.bel.size
  exact ⟨by omega, by omega, by omega, by omega, by omega, by omega⟩

/-- What leaves all the walk's blocks alone. -/
theorem TW.call (h : TW w0 wr B WB LB NB IB CB n gp low num cls iso met found ol sl vo vs) (hB : Below wr.heap.size wr w') : TW w0 w' B WB LB NB IB CB n gp low num cls iso met found ol sl vo vs := by
  obtain ⟨l1, l2, l3, l4, l5, l6⟩ := h.lts
  exact ⟨h.blk, h.bel.trans (hB.mono l6), Nat.le_trans h.bsz hB.size, by rw [hB.block _ l1]; exact h.wb, h.low.of_block (hB.block _ l2), h.num.of_block (hB.block _ l3), h.iso.of_block (hB.block _ l4), h.cls.of_block (hB.block _ l5), own_below h.opn hB, own_below h.stk hB, h.dis⟩
theorem TW.alloc (h : TW w0 wr B WB LB NB IB CB n gp low num cls iso met found ol sl vo vs) (o : Obj) : TW w0 (wr.alloc o) B WB LB NB IB CB n gp low num cls iso met found ol sl vo vs := h.call ((Below.refl _ _).alloc (Nat.le_refl _) o)
theorem TW.drewN (h : TW w0 wr B WB LB NB IB CB n gp low num cls iso met found ol sl vo vs) (m : Nat) : TW w0 (wr.drewN m) B WB LB NB IB CB n gp low num cls iso met found ol sl vo vs := h.call (bdrew (Below.refl _ _))
theorem TW.drew (h : TW w0 wr B WB LB NB IB CB n gp low num cls iso met found ol sl vo vs) : TW w0 wr.drew B WB LB NB IB CB n gp low num cls iso met found ol sl vo vs := h.call (Below.refl _ _).drew

theorem TW.ogt (h : TW w0 wr B WB LB NB IB CB n gp low num cls iso met found ol sl vo vs) : ∀ g, vo.ownBlock = some g → B ≤ g := fun g hg => (h.opn.lt g hg).1
theorem TW.sgt (h : TW w0 wr B WB LB NB IB CB n gp low num cls iso met found ol sl vo vs) : ∀ g, vs.ownBlock = some g → B ≤ g := fun g hg => (h.stk.lt g hg).1

theorem TW.setW (h : TW w0 wr B WB LB NB IB CB n gp low num cls iso met found ol sl vo vs) (j : Nat) (x : Value) {gp' : Value} {met' found' : Int} {vo' vs' : Value} {ol' : List Int} {sl' : List E}
    (he : (#[gp, .slice (some ⟨LB, 0, none⟩) n n, .slice (some ⟨NB, 0, none⟩) n n, vo, .slice (some ⟨IB, 0, none⟩) n n, .slice (some ⟨CB, 0, none⟩) n n, .int .i64 met, .int .i64 found, vs] : Array Value).setIfInBounds j x =
      #[gp', .slice (some ⟨LB, 0, none⟩) n n, .slice (some ⟨NB, 0, none⟩) n n, vo', .slice (some ⟨IB, 0, none⟩) n n, .slice (some ⟨CB, 0, none⟩) n n, .int .i64 met', .int .i64 found', vs'])
    (ho : wr.ownsRow B 3 1 vo' ol'.length (ol'.flatMap encI)) (hs : wr.ownsRow B 215 3 vs' sl'.length (sl'.flatMap encE)) (hd : ∀ g, vo'.ownBlock = some g → vs'.ownBlock ≠ some g) :
    TW w0 (wr.setCell ⟨WB, j, none⟩ x) B WB LB NB IB CB n gp' low num cls iso met' found' ol' sl' vo' vs' := by
  have hb := h.blk
  obtain ⟨n1, n2, n3, n4⟩ := hb.w
  have hh := hb.hi
  refine ⟨hb, h.bel.setCell hb.lo.1 _, by rw [size_setCell]; exact h.bsz, ?_, h.low.setOther (fun e => n1 e.symm) _, h.num.setOther (fun e => n2 e.symm) _, h.iso.setOther (fun e => n3 e.symm) _, h.cls.setOther (fun e => n4 e.symm) _, own_set1 ho (fun g hg => ?_) _, own_set1 hs (fun g hg => ?_) _, hd⟩
  · rw [← he]; exact heap_setCell_same _ WB j _ _ _ h.wb
  · have := (ho.lt g hg).1; show g ≠ WB; omega
  · have := (hs.lt g hg).1; show g ≠ WB; omega

theorem TW.setMet (h : TW w0 wr B WB LB NB IB CB n gp low num cls iso met found ol sl vo vs) (x : Int) : TW w0 (wr.setCell ⟨WB, 6, none⟩ (.int .i64 x)) B WB LB NB IB CB n gp low num cls iso x found ol sl vo vs := h.setW 6 _ rfl h.opn h.stk h.dis
theorem TW.setFound (h : TW w0 wr B WB LB NB IB CB n gp low num cls iso met found ol sl vo vs) (x : Int) : TW w0 (wr.setCell ⟨WB, 7, none⟩ (.int .i64 x)) B WB LB NB IB CB n gp low num cls iso met x ol sl vo vs := h.setW 7 _ rfl h.opn h.stk h.dis

theorem TW.setLow (h : TW w0 wr B WB LB NB IB CB n gp low num cls iso met found ol sl vo vs) (j : Nat) (x : Int) : TW w0 (wr.setCell ⟨LB, j, none⟩ (.int .i64 x)) B WB LB NB IB CB n gp (upd low j x) num cls iso met found ol sl vo vs := by
  have hb := h.blk; have hh := hb.hi; obtain ⟨n1, n2, n3, n4⟩ := hb.w; obtain ⟨l1, l2, l3⟩ := hb.l
  refine ⟨hb, h.bel.setCell hb.lo.2.1 _, by rw [size_setCell]; exact h.bsz, ?_, (h.low.set j _).congr (fun i _ => ?_), h.num.setOther (fun e => l1 e.symm) _, h.iso.setOther (fun e => l2 e.symm) _, h.cls.setOther (fun e => l3 e.symm) _, own_set1 h.opn (fun g hg => ?_) _, own_set1 h.stk (fun g hg => ?_) _, h.dis⟩
  · rw [Below.heap_setCell _ _ _ _ (show WB ≠ LB from n1)]; exact h.wb
  · unfold upd; split <;> rfl
  · have := h.ogt g hg; show g ≠ LB; omega
  · have := h.sgt g hg; show g ≠ LB; omega
theorem TW.setNum (h : TW w0 wr B WB LB NB IB CB n gp low num cls iso met found ol sl vo vs) (j : Nat) (x : Int) : TW w0 (wr.setCell ⟨NB, j, none⟩ (.int .i64 x)) B WB LB NB IB CB n gp low (upd num j x) cls iso met found ol sl vo vs := by
  have hb := h.blk; have hh := hb.hi; obtain ⟨n1, n2, n3, n4⟩ := hb.w; obtain ⟨l1, l2, l3⟩ := hb.l; obtain ⟨m1, m2, m3⟩ := hb.n
  refine ⟨hb, h.bel.setCell hb.lo.2.2.1 _, by rw [size_setCell]; exact h.bsz, ?_, h.low.setOther l1 _, (h.num.set j _).congr (fun i _ => ?_), h.iso.setOther (fun e => m1 e.symm) _, h.cls.setOther (fun e => m2 e.symm) _, own_set1 h.opn (fun g hg => ?_) _, own_set1 h.stk (fun g hg => ?_) _, h.dis⟩
  · rw [Below.heap_setCell _ _ _ _ (show WB ≠ NB from n2)]; exact h.wb
  · unfold upd; split <;> rfl
  · have := h.ogt g hg; show g ≠ NB; omega
  · have := h.sgt g hg; show g ≠ NB; omega
theorem TW.setIso (h : TW w0 wr B WB LB NB IB CB n gp low num cls iso met found ol sl vo vs) (j : Nat) (x : Bool) : TW w0 (wr.setCell ⟨IB, j, none⟩ (.bool x)) B WB LB NB IB CB n gp low num cls (upd iso j x) met found ol sl vo vs := by
  have hb := h.blk; have hh := hb.hi; obtain ⟨n1, n2, n3, n4⟩ := hb.w; obtain ⟨l1, l2, l3⟩ := hb.l; obtain ⟨m1, m2, m3⟩ := hb.n
  refine ⟨hb, h.bel.setCell hb.lo.2.2.2.1 _, by rw [size_setCell]; exact h.bsz, ?_, h.low.setOther l2 _, h.num.setOther m1 _, (h.iso.set j _).congr (fun i _ => ?_), h.cls.setOther (fun e => m3 e.symm) _, own_set1 h.opn (fun g hg => ?_) _, own_set1 h.stk (fun g hg => ?_) _, h.dis⟩
  · rw [Below.heap_setCell _ _ _ _ (show WB ≠ IB from n3)]; exact h.wb
  · unfold upd; split <;> rfl
  · have := h.ogt g hg; show g ≠ IB; omega
  · have := h.sgt g hg; show g ≠ IB; omega
theorem TW.setCls (h : TW w0 wr B WB LB NB IB CB n gp low num cls iso met found ol sl vo vs) (j : Nat) (x : Int) : TW w0 (wr.setCell ⟨CB, j, none⟩ (.int .i64 x)) B WB LB NB IB CB n gp low num (upd cls j x) iso met found ol sl vo vs := by
  have hb := h.blk; have hh := hb.hi; obtain ⟨n1, n2, n3, n4⟩ := hb.w; obtain ⟨l1, l2, l3⟩ := hb.l; obtain ⟨m1, m2, m3⟩ := hb.n
  refine ⟨hb, h.bel.setCell hb.lo.2.2.2.2.1 _, by rw [size_setCell]; exact h.bsz, ?_, h.low.setOther l3 _, h.num.setOther m2 _, h.iso.setOther m3 _, (h.cls.set j _).congr (fun i _ => ?_), own_set1 h.opn (fun g hg => ?_) _, own_set1 h.stk (fun g hg => ?_) _, h.dis⟩
  · rw [Below.heap_setCell _ _ _ _ (show WB ≠ CB from n4)]; exact h.wb
  · unfold upd; split <;> rfl
  · have := h.ogt g hg; show g ≠ CB; omega
  · have := h.sgt g hg; show g ≠ CB; omega

/-- Behind an append to the open states, its store still to come. -/
theorem TW.grownO (h : TW w0 wr B WB LB NB IB CB n gp low num cls iso met found ol sl vo vs) {w1 : World} (hg : wr.grownBy w1 vo.ownBlock) :
    w1.heap[WB]? = wr.heap[WB]? ∧ w1.heap[LB]? = wr.heap[LB]? ∧ w1.heap[NB]? = wr.heap[NB]? ∧ w1.heap[IB]? = wr.heap[IB]? ∧ w1.heap[CB]? = wr.heap[CB]? ∧ w1.ownsRow B 215 3 vs sl.length (sl.flatMap encE) ∧ Below w0.heap.size w0 w1 ∧ B ≤ w1.heap.size := by
  have hb := h.blk; have hh := hb.hi; obtain ⟨l1, l2, l3, l4, l5, l6⟩ := h.lts
  have key : ∀ b, b < B → some b ≠ vo.ownBlock := fun b hb' e => by have := h.ogt b e.symm; omega
  exact ⟨hg.block _ l1 (key _ hh.1), hg.block _ l2 (key _ hh.2.1), hg.block _ l3 (key _ hh.2.2.1), hg.block _ l4 (key _ hh.2.2.2.1), hg.block _ l5 (key _ hh.2.2.2.2),
    own_block h.stk (fun g hgv => hg.block g (h.stk.lt g hgv).2 (fun e => h.dis g e.symm hgv)), h.bel.grown hg l6 (fun k hk => by have := h.ogt k hk; have := hb.lo; omega), Nat.le_trans h.bsz hg.size⟩
theorem TW.grownS (h : TW w0 wr B WB LB NB IB CB n gp low num cls iso met found ol sl vo vs) {w1 : World} (hg : wr.grownBy w1 vs.ownBlock) :
    w1.heap[WB]? = wr.heap[WB]? ∧ w1.heap[LB]? = wr.heap[LB]? ∧ w1.heap[NB]? = wr.heap[NB]? ∧ w1.heap[IB]? = wr.heap[IB]? ∧ w1.heap[CB]? = wr.heap[CB]? ∧ w1.ownsRow B 3 1 vo ol.length (ol.flatMap encI) ∧ Below w0.heap.size w0 w1 ∧ B ≤ w1.heap.size := by
  have hb := h.blk; have hh := hb.hi; obtain ⟨l1, l2, l3, l4, l5, l6⟩ := h.lts
  have key : ∀ b, b < B → some b ≠ vs.ownBlock := fun b hb' e => by have := h.sgt b e.symm; omega
  exact ⟨hg.block _ l1 (key _ hh.1), hg.block _ l2 (key _ hh.2.1), hg.block _ l3 (key _ hh.2.2.1), hg.block _ l4 (key _ hh.2.2.2.1), hg.block _ l5 (key _ hh.2.2.2.2),
    own_block h.opn (fun g hgv => hg.block g (h.opn.lt g hgv).2 (fun e => h.dis g hgv e.symm)), h.bel.grown hg l6 (fun k hk => by have := h.sgt k hk; have := hb.lo; omega), Nat.le_trans h.bsz hg.size⟩

theorem TW.wcells {gp0 : Value} {W : World} {a3 a8 : Value} {m6 m7 : Int} (h : W.heap[WB]? = some (.cells #[gp0, .slice (some ⟨LB, 0, none⟩) n n, .slice (some ⟨NB, 0, none⟩) n n, a3, .slice (some ⟨IB, 0, none⟩) n n, .slice (some ⟨CB, 0, none⟩) n n, .int .i64 m6, .int .i64 m7, a8] 178 (0, 0))) :
    WB < W.heap.size ∧ W.cell? ⟨WB, 0, none⟩ = some gp0 ∧ W.cell? ⟨WB, 1, none⟩ = some (.slice (some ⟨LB, 0, none⟩) n n) ∧ W.cell? ⟨WB, 2, none⟩ = some (.slice (some ⟨NB, 0, none⟩) n n) ∧ W.cell? ⟨WB, 3, none⟩ = some a3 ∧ W.cell? ⟨WB, 4, none⟩ = some (.slice (some ⟨IB, 0, none⟩) n n) ∧
    W.cell? ⟨WB, 5, none⟩ = some (.slice (some ⟨CB, 0, none⟩) n n) ∧ W.cell? ⟨WB, 6, none⟩ = some (.int .i64 m6) ∧ W.cell? ⟨WB, 7, none⟩ = some (.int .i64 m7) ∧ W.cell? ⟨WB, 8, none⟩ = some a8 ∧ W.frozen? ⟨WB, 3, none⟩ = false ∧ W.frozen? ⟨WB, 8, none⟩ = false := by
  refine ⟨(Array.getElem?_eq_some_iff.1 h).1, ?_, ?_, ?_, ?_, ?_, ?_, ?_, ?_, ?_, ?_, ?_⟩ <;> simp [World.cell?, World.frozen?, h]

/-- A state is put on the open ones. -/
theorem TW.pushO (h : TW w0 wr B WB LB NB IB CB n gp low num cls iso met found ol sl vo vs) {w1 : World} {g m c : Nat} {ol' : List Int} (hown : w1.ownsRow B 3 1 (.slice (some ⟨g, 0, none⟩) m c) ol'.length (ol'.flatMap encI)) (hg : wr.grownBy w1 vo.ownBlock) (hl : vo.ownBlock = some g ∨ wr.heap.size ≤ g) :
    TW w0 (w1.setCell ⟨WB, 3, none⟩ (.slice (some ⟨g, 0, none⟩) m c)) B WB LB NB IB CB n gp low num cls iso met found ol' sl (.slice (some ⟨g, 0, none⟩) m c) vs := by
  obtain ⟨e1, e2, e3, e4, e5, e6, e7, e8⟩ := h.grownO hg
  have h1 : TW w0 w1 B WB LB NB IB CB n gp low num cls iso met found [] sl (.slice none 0 0) vs → True := fun _ => trivial
  have hb := h.blk; have hh := hb.hi; obtain ⟨n1, n2, n3, n4⟩ := hb.w
  refine ⟨hb, e7.setCell hb.lo.1 _, by rw [size_setCell]; exact e8, ?_, (h.low.of_block e2).setOther (fun e => n1 e.symm) _, (h.num.of_block e3).setOther (fun e => n2 e.symm) _, (h.iso.of_block e4).setOther (fun e => n3 e.symm) _, (h.cls.of_block e5).setOther (fun e => n4 e.symm) _, own_set1 hown (fun g' hg' => ?_) _, own_set1 e6 (fun g' hg' => ?_) _, fun g' hg' => ?_⟩
  · exact heap_setCell_same _ WB 3 _ _ _ (e1.trans h.wb)
  · have := (hown.lt g' hg').1; show g' ≠ WB; omega
  · have := h.sgt g' hg'; show g' ≠ WB; omega
  · simp only [Value.ownBlock, Option.some.injEq] at hg'
    subst hg'
    rcases hl with h2 | h2
    · exact h.dis g h2
    · intro e; have := (h.stk.lt g e).2; omega
/-- A visit is put on the stack. -/
theorem TW.pushS (h : TW w0 wr B WB LB NB IB CB n gp low num cls iso met found ol sl vo vs) {w1 : World} {g m c : Nat} {sl' : List E} (hown : w1.ownsRow B 215 3 (.slice (some ⟨g, 0, none⟩) m c) sl'.length (sl'.flatMap encE)) (hg : wr.grownBy w1 vs.ownBlock) (hl : vs.ownBlock = some g ∨ wr.heap.size ≤ g) :
    TW w0 (w1.setCell ⟨WB, 8, none⟩ (.slice (some ⟨g, 0, none⟩) m c)) B WB LB NB IB CB n gp low num cls iso met found ol sl' vo (.slice (some ⟨g, 0, none⟩) m c) := by
  obtain ⟨e1, e2, e3, e4, e5, e6, e7, e8⟩ := h.grownS hg
  have hb := h.blk; have hh := hb.hi; obtain ⟨n1, n2, n3, n4⟩ := hb.w
  refine ⟨hb, e7.setCell hb.lo.1 _, by rw [size_setCell]; exact e8, ?_, (h.low.of_block e2).setOther (fun e => n1 e.symm) _, (h.num.of_block e3).setOther (fun e => n2 e.symm) _, (h.iso.of_block e4).setOther (fun e => n3 e.symm) _, (h.cls.of_block e5).setOther (fun e => n4 e.symm) _, own_set1 e6 (fun g' hg' => ?_) _, own_set1 hown (fun g' hg' => ?_) _, fun g' hg' e => ?_⟩
  · exact heap_setCell_same _ WB 8 _ _ _ (e1.trans h.wb)
  · have := h.ogt g' hg'; show g' ≠ WB; omega
  · have := (hown.lt g' hg').1; show g' ≠ WB; omega
  · simp only [Value.ownBlock, Option.some.injEq] at e
    subst e
    rcases hl with h2 | h2
    · exact h.dis g hg' h2
    · have := (h.opn.lt g hg').2; omega

theorem flat_snoc_take {xs : List E} {x : E} : ((xs ++ [x]).flatMap encE).take (xs.length * 3) = xs.flatMap encE := by
  rw [List.flatMap_append, List.take_append_of_le_length (by rw [length_flatMap lenE]; omega), List.take_of_length_le (by rw [length_flatMap lenE]; omega)]
theorem flat_snoc_takeI {xs : List Int} {x : Int} : ((xs ++ [x]).flatMap encI).take (xs.length * 1) = xs.flatMap encI := by
  rw [List.flatMap_append, List.take_append_of_le_length (by rw [length_flatMap lenI]; omega), List.take_of_length_le (by rw [length_flatMap lenI]; omega)]

/-- The last open state is taken off. -/
theorem TW.popO {a : Option Addr} {m c : Nat} {xs : List Int} {x : Int} (h : TW w0 wr B WB LB NB IB CB n gp low num cls iso met found (xs ++ [x]) sl (.slice a m c) vs) (hm : m = xs.length + 1) :
    TW w0 (wr.setCell ⟨WB, 3, none⟩ (.slice a xs.length c)) B WB LB NB IB CB n gp low num cls iso met found xs sl (.slice a xs.length c) vs := by
  have ho := h.opn
  rw [List.length_append] at ho
  subst hm
  exact h.setW 3 _ rfl (own_pop (n := xs.length + 1) ho (Nat.le_succ _) flat_snoc_takeI.symm (length_flatMap lenI _) (by omega)) h.stk (fun g hg => h.dis g (by cases a <;> exact hg))
/-- The last visit is taken off. -/
theorem TW.popS {a : Option Addr} {m c : Nat} {xs : List E} {x : E} (h : TW w0 wr B WB LB NB IB CB n gp low num cls iso met found ol (xs ++ [x]) vo (.slice a m c)) (hm : m = xs.length + 1) :
    TW w0 (wr.setCell ⟨WB, 8, none⟩ (.slice a xs.length c)) B WB LB NB IB CB n gp low num cls iso met found ol xs vo (.slice a xs.length c) := by
  have ho := h.stk
  rw [List.length_append] at ho
  subst hm
  exact h.setW 8 _ rfl h.opn (own_pop (n := xs.length + 1) ho (Nat.le_succ _) flat_snoc_take.symm (length_flatMap lenE _) (by omega)) (fun g hg e => h.dis g hg (by cases a <;> exact e))

/-- A cell of a visit is written. -/
theorem TW.setV {g m c : Nat} (h : TW w0 wr B WB LB NB IB CB n gp low num cls iso met found ol sl vo (.slice (some ⟨g, 0, none⟩) m c)) (j : Nat) (v : Value) {sl' : List E} (hl : sl'.length = sl.length) (he : (sl.flatMap encE).set j v = sl'.flatMap encE) :
    TW w0 (wr.setCell ⟨g, j, none⟩ v) B WB LB NB IB CB n gp low num cls iso met found ol sl' vo (.slice (some ⟨g, 0, none⟩) m c) := by
  have hb := h.blk; have hh := hb.hi
  have hgB := h.sgt g rfl
  have hs := h.stk
  have hm : m = sl.length := by
    rcases hs.2 with ⟨h2, _⟩ | ⟨g', cap', cur, hv, _⟩
    · simp at h2
    · simp only [Value.slice.injEq] at hv; exact hv.2.1
  subst hm
  have h1 := (hs.stored j v).1
  rw [he] at h1
  have hne : ∀ b, b < B → b ≠ g := fun b hb' e => by omega
  refine ⟨hb, h.bel.setCell (by show w0.heap.size ≤ g; have := hb.lo; omega) _, by rw [size_setCell]; exact h.bsz, ?_, h.low.setOther (hne _ hh.2.1) _, h.num.setOther (hne _ hh.2.2.1) _, h.iso.setOther (hne _ hh.2.2.2.1) _, h.cls.setOther (hne _ hh.2.2.2.2) _, own_set1 h.opn (fun g' hg' e => ?_) _, by rw [hl]; exact h1, h.dis⟩
  · rw [Below.heap_setCell _ _ _ _ (hne WB hh.1)]; exact h.wb
  · have e : g' = g := e
    subst e; exact h.dis g' hg' rfl

theorem TW.cells (h : TW w0 wr B WB LB NB IB CB n gp low num cls iso met found ol sl vo vs) :
    wr.cell? ⟨WB, 0, none⟩ = some gp ∧ wr.cell? ⟨WB, 1, none⟩ = some (.slice (some ⟨LB, 0, none⟩) n n) ∧ wr.cell? ⟨WB, 2, none⟩ = some (.slice (some ⟨NB, 0, none⟩) n n) ∧ wr.cell? ⟨WB, 3, none⟩ = some vo ∧ wr.cell? ⟨WB, 4, none⟩ = some (.slice (some ⟨IB, 0, none⟩) n n) ∧
    wr.cell? ⟨WB, 5, none⟩ = some (.slice (some ⟨CB, 0, none⟩) n n) ∧ wr.cell? ⟨WB, 6, none⟩ = some (.int .i64 met) ∧ wr.cell? ⟨WB, 7, none⟩ = some (.int .i64 found) ∧ wr.cell? ⟨WB, 8, none⟩ = some vs := by
  have := h.wb
  refine ⟨?_, ?_, ?_, ?_, ?_, ?_, ?_, ?_, ?_⟩ <;> simp [World.cell?, this]
theorem TW.fz (h : TW w0 wr B WB LB NB IB CB n gp low num cls iso met found ol sl vo vs) (j : Nat) : wr.frozen? ⟨WB, j, none⟩ = false := by
  have := h.wb
  simp [World.frozen?, this]
end
end Go.Proofs.YtkmljelgogcobaaGreatDoor
