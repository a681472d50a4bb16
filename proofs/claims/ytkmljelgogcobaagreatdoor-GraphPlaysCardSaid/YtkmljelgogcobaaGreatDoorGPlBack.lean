/-
  Plain: a system with its edges turned round.
  Plain: what GraphPlays asks: steps in are the steps out of the system turned round; who is reachable, state by state.
  Plain: the one form, list by list: its beginnings, how it is told from others.
-/
import Derived.Test.YtkmljelgogcobaaGreatDoorGPl10
import Derived.Test.YtkmljelgogcobaaGreatDoorGPl3
namespace Go.Proofs.YtkmljelgogcobaaGreatDoor
namespace Pl
def turnE (x : E) : E := (x.2.2, x.2.1, x.1)
def backS (s : Lts) : Lts := ⟨s.st, s.lb, s.s0, s.es.map turnE⟩
section
variable {s : Lts}
theorem mem_backS {x : E} : x ∈ (backS s).es ↔ turnE x ∈ s.es := by
  unfold backS
  simp only [List.mem_map]
  constructor
  · rintro ⟨y, hy, rfl⟩; exact hy
  · intro h; exact ⟨_, h, rfl⟩
theorem backS_right (h : s.Right) : (backS s).Right := by
  refine ⟨?_, fun x hx => ?_⟩
  · have := h.head
    unfold backS
    simpa using this
  · have h1 := offB_false.1 (h.edges _ (mem_backS.1 hx))
    refine offB_false.2 ?_
    simp only [turnE] at h1
    show 0 ≤ x.1 ∧ x.1 < s.st ∧ 0 ≤ x.2.1 ∧ x.2.1 < s.lb ∧ 0 ≤ x.2.2 ∧ x.2.2 < s.st
    omega
theorem tr_backS {p q : Nat} : TR (backS s) p q ↔ TR s q p := by
  constructor
  · intro h
    induction h with
    | refl => exact .refl
    | tail _ h2 ih => exact (TR.one (mem_backS.1 h2)).trans ih
  · intro h
    induction h with
    | refl => exact .refl
    | tail _ h2 ih => exact (TR.one (s := backS s) (mem_backS.2 h2)).trans ih
end
end Pl
end Go.Proofs.YtkmljelgogcobaaGreatDoor

namespace Go.Proofs.YtkmljelgogcobaaGreatDoor
namespace Pl
theorem ins_back (s : Lts) (i : Int) : (backS s).norm.outs i = s.norm.ins i := by
  refine srt_ext stoS _ _ (outs_srt (backS s).norm_srt i) (ins_srt i) (fun y => ?_)
  rw [mem_outs, mem_inS]
  show _ ∈ nf ltE (backS s).es ↔ _ ∈ nf ltE s.es
  rw [mem_nf stoE, mem_nf stoE, mem_backS]
  rfl
/-- The reachable ones among the first k states. -/
noncomputable def rK (s : Lts) (k : Nat) : List Int := ((List.range k).map Int.ofNat).filter (fun x => decide (x ∈ reachL s))
theorem rK_succ (s : Lts) (k : Nat) : rK s (k + 1) = if (k : Int) ∈ reachL s then rK s k ++ [(k : Int)] else rK s k := by
  unfold rK
  rw [List.range_succ, List.map_append, List.filter_append]
  by_cases h : (k : Int) ∈ reachL s
  · rw [if_pos h]; simp [h]
  · rw [if_neg h]; simp [h]
theorem rK_len (s : Lts) (k : Nat) : (rK s k).length ≤ k := by
  unfold rK
  exact Nat.le_trans (List.length_filter_le _ _) (by simp)
theorem rK_all (s : Lts) {n : Nat} (hn : s.st = (n : Int)) : rK s n = reachL s := by
  refine srt_ext stoI _ _ ?_ (reachL_srt s) (fun x => ?_)
  · refine List.Pairwise.filter _ ?_
    rw [List.pairwise_map]
    refine List.pairwise_lt_range.imp (fun {a b} h => ?_)
    simp [ltI]; omega
  · unfold rK
    simp only [List.mem_filter, List.mem_map, List.mem_range, decide_eq_true_eq]
    constructor
    · rintro ⟨_, h⟩; exact h
    · intro h
      have := reachL_rng h
      exact ⟨⟨x.toNat, by omega, by simp; omega⟩, h⟩
end Pl
end Go.Proofs.YtkmljelgogcobaaGreatDoor

namespace Go.Proofs.YtkmljelgogcobaaGreatDoor
namespace Pl

theorem canon_snoc (l : List Int) (x : Int) : canon (l ++ [x]) = canon l ++ [((dist (l ++ [x])).idxOf x : Int)] := by
  unfold canon
  rw [List.map_append, List.map_cons, List.map_nil]
  congr 1
  apply List.map_congr_left
  intro y hy
  rw [idx_append l [x] hy]

theorem canon_take (xs : List Int) (i : Nat) : (canon xs).take i = canon (xs.take i) := by
  unfold canon
  rw [← List.map_take]
  apply List.map_congr_left
  intro y hy
  conv => lhs; rw [← List.take_append_drop i xs]
  rw [idx_append _ _ hy]

theorem idx_range : ∀ (n a : Nat) (x : Nat), x < n → ((List.range' a n).map Int.ofNat).idxOf ((a + x : Nat) : Int) = x
  | 0, _, _, h => by omega
  | n + 1, a, 0, _ => by simp [List.range'_succ]
  | n + 1, a, x + 1, h => by
    rw [List.range'_succ, List.map_cons, List.idxOf_cons]
    have hb : (Int.ofNat a == ((a + (x + 1) : Nat) : Int)) = false := by simp; omega
    rw [hb]
    have := idx_range n (a + 1) x (by omega)
    rw [show a + (x + 1) = a + 1 + x by omega]
    simp only [cond_false, this]

theorem map_idx : ∀ (l : List Int), l.Nodup → l.map (fun x => (l.idxOf x : Int)) = (List.range l.length).map Int.ofNat := by
  intro l hn
  apply List.ext_getElem?
  intro i
  rw [List.getElem?_map, List.getElem?_map]
  by_cases h : i < l.length
  · rw [List.getElem?_eq_getElem h, List.getElem?_range h]
    simp only [Option.map_some]
    congr 1
    have := List.Nodup.idxOf_getElem hn i h
    rw [this]; rfl
  · rw [List.getElem?_eq_none (by omega), List.getElem?_eq_none (by simp; omega)]; rfl

theorem dist_canon (l : List Int) : dist (canon l) = (List.range (dist l).length).map Int.ofNat := by
  have h := dist_map (f := fun x => ((dist l).idxOf x : Int)) l (fun x hx y hy h => idx_inj ((mem_dist l).2 hx) ((mem_dist l).2 hy) (Int.ofNat.inj h))
  unfold canon
  exact h.trans (map_idx _ (nodup_dist l))

/-- The number of classes ahead of i. -/
def nUp (xs : List Int) (i : Nat) : Nat := (dist (xs.take i)).length

theorem nUp_le (xs : List Int) (i : Nat) : nUp xs i ≤ i := by
  unfold nUp; have := dist_len (xs.take i); simp at this; omega

theorem nUp_snoc {xs : List Int} {i : Nat} {x : Int} (h : xs[i]? = some x) : xs.take (i + 1) = xs.take i ++ [x] := by
  obtain ⟨hl, rfl⟩ := List.getElem?_eq_some_iff.1 h
  exact List.take_succ_eq_append_getElem hl

/-- The one form's own steps: an old class. -/
theorem form_old {xs : List Int} {i : Nat} {x : Int} (h : xs[i]? = some x) (hc : canon (xs.take i) = xs.take i) (h0 : 0 ≤ x) (h1 : x < nUp xs i) :
    canon (xs.take (i + 1)) = xs.take (i + 1) ∧ nUp xs (i + 1) = nUp xs i := by
  have hd := dist_canon (xs.take i)
  rw [hc] at hd
  obtain ⟨k, rfl⟩ := Int.eq_ofNat_of_zero_le h0
  unfold nUp at h1
  have hk : k < (dist (xs.take i)).length := by omega
  have hm : (k : Int) ∈ dist (xs.take i) := by
    rw [hd, List.mem_map]; exact ⟨k, by simpa using hk, rfl⟩
  have hdd : dist (xs.take (i + 1)) = dist (xs.take i) := by rw [nUp_snoc h, dist_snoc]; unfold addN; rw [if_pos hm]
  refine ⟨?_, by unfold nUp; rw [hdd]⟩
  have hix : (dist (xs.take (i + 1))).idxOf (k : Int) = k := by
    rw [hdd, hd, List.range_eq_range']
    have := idx_range (dist (xs.take i)).length 0 k hk
    simpa using this
  rw [nUp_snoc h] at hix ⊢
  rw [canon_snoc, hix, hc]

/-- .. a new one. -/
theorem form_new {xs : List Int} {i : Nat} {x : Int} (h : xs[i]? = some x) (hc : canon (xs.take i) = xs.take i) (h1 : x = nUp xs i) :
    canon (xs.take (i + 1)) = xs.take (i + 1) ∧ nUp xs (i + 1) = nUp xs i + 1 := by
  have hd := dist_canon (xs.take i)
  rw [hc] at hd
  unfold nUp at h1
  have hm : x ∉ dist (xs.take i) := by
    rw [hd, List.mem_map]; rintro ⟨k, hk, rfl⟩
    rw [List.mem_range] at hk
    have : (k : Int) = ((dist (xs.take i)).length : Int) := h1
    omega
  have hdd : dist (xs.take (i + 1)) = dist (xs.take i) ++ [x] := by rw [nUp_snoc h, dist_snoc]; unfold addN; rw [if_neg hm]
  refine ⟨?_, by unfold nUp; rw [hdd]; simp⟩
  have hix : (dist (xs.take (i + 1))).idxOf x = (dist (xs.take i)).length := by rw [hdd, List.idxOf_append]; simp [hm]
  rw [nUp_snoc h] at hix ⊢
  rw [canon_snoc, hix, hc, ← h1]

/-- .. none at all. -/
theorem form_no {xs : List Int} {i : Nat} {x : Int} (h : xs[i]? = some x) (h1 : x < 0 ∨ (nUp xs i : Int) < x) : canon xs ≠ xs := by
  intro e
  have h2 := canon_get xs i
  rw [e, h] at h2
  simp only [Option.map_some, Option.some.injEq] at h2
  have h3 := idx_append (xs.take (i + 1)) (xs.drop (i + 1)) (y := x) (by rw [nUp_snoc h]; simp)
  rw [List.take_append_drop] at h3
  rw [h3] at h2
  have h4 : (dist (xs.take (i + 1))).idxOf x ≤ nUp xs i := by
    rw [nUp_snoc h, dist_snoc]
    unfold nUp
    by_cases hm : x ∈ dist (xs.take i)
    · rw [idx_addN hm]; exact List.idxOf_le_length
    · rw [idx_new hm]; exact Nat.le_refl _
  omega

/-- The greatest of the one form's numbers, and one more. -/
theorem nUp_canon {xs : List Int} {i : Nat} {x : Int} (h : xs[i]? = some x) :
    (if (nUp xs i : Int) ≤ ((dist xs).idxOf x : Int) then ((dist xs).idxOf x : Int) + 1 else (nUp xs i : Int)) = nUp xs (i + 1) := by
  have h3 := idx_append (xs.take (i + 1)) (xs.drop (i + 1)) (y := x) (by rw [nUp_snoc h]; simp)
  rw [List.take_append_drop] at h3
  rw [h3]
  unfold nUp
  rw [nUp_snoc h, dist_snoc]
  by_cases hm : x ∈ dist (xs.take i)
  · rw [idx_addN hm]
    have := List.idxOf_lt_length_of_mem hm
    unfold addN
    rw [if_pos hm, if_neg (by omega)]
  · rw [idx_new hm]
    unfold addN
    rw [if_neg hm, if_pos (by omega)]
    simp

end Pl
end Go.Proofs.YtkmljelgogcobaaGreatDoor
