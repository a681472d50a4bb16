/-
  Plain: which states are reachable; a walk over a list that grows.
-/
import Derived.Test.YtbbjmompbmgnmaaDoorPl2
namespace Go.Proofs.YtbbjmompbmgnmaaDoor
namespace Pl

def ltI (a b : Int) : Bool := decide (a < b)
theorem stoI : STO ltI where
  irrefl a := by simp [ltI]
  trans a b c h1 h2 := by simp [ltI] at *; omega
  total a b := by simp [ltI]; omega

/-- x is reached from the start. -/
def Rch (s : Lts) (x : Int) : Prop := ∀ P : Int → Prop, P s.s0 → (∀ a l b, P a → (a, l, b) ∈ s.es → P b) → P x
theorem Rch.start (s : Lts) : Rch s s.s0 := fun _ h _ => h
theorem Rch.step {s : Lts} {a l b : Int} (h : Rch s a) (he : (a, l, b) ∈ s.es) : Rch s b := fun P h0 h1 => h1 a l b (h P h0 h1) he

theorem nodup_len {L : List Int} {n : Nat} (h : L.Nodup) (hr : ∀ x ∈ L, 0 ≤ x ∧ x < (n : Int)) : L.length ≤ n := by
  have : L ⊆ (List.range n).map Int.ofNat := by
    intro x hx
    have := hr x hx
    rw [List.mem_map]
    exact ⟨x.toNat, by rw [List.mem_range]; omega, by simp; omega⟩
  have := List.Nodup.length_le_of_subset h this
  simpa using this

/-- The states found, the first i of them looked over. -/
structure Bfs (s : Lts) (L : List Int) (i : Nat) : Prop where
  nd : L.Nodup
  rng : ∀ x ∈ L, 0 ≤ x ∧ x < s.st
  rch : ∀ x ∈ L, Rch s x
  s0 : s.s0 ∈ L
  done : ∀ k x, k < i → L[k]? = some x → ∀ y ∈ s.outs x, y.2 ∈ L

theorem Bfs.start {s : Lts} (h : s.Right) (h0 : s.st ≠ 0) : Bfs s [s.s0] 0 where
  nd := by simp
  rng x hx := by have := h.st0; simp at hx; subst hx; omega
  rch x hx := by simp at hx; subst hx; exact Rch.start s
  s0 := by simp
  done k x hk := by omega

theorem Bfs.len {s : Lts} {L : List Int} {i : Nat} (h : Bfs s L i) : L.length ≤ s.st.toNat :=
  nodup_len h.nd (fun x hx => by have := h.rng x hx; omega)

theorem Bfs.push {s : Lts} (hr : s.Right) {L : List Int} {i : Nat} {x : Int} {y : S} (h : Bfs s L i) (hx : L[i]? = some x) (hy : y ∈ s.outs x) (hn : y.2 ∉ L) : Bfs s (L ++ [y.2]) i where
  nd := by rw [List.nodup_append]; exact ⟨h.nd, by simp, by intro a ha b hb; simp at hb; subst hb; intro e; subst e; exact hn ha⟩
  rng z hz := by
    rcases List.mem_append.1 hz with h1 | h1
    · exact h.rng z h1
    · simp at h1; subst h1
      have := offB_false.1 (hr.edges _ (mem_outs.1 hy))
      exact ⟨this.2.2.2.2.1, this.2.2.2.2.2⟩
  rch z hz := by
    rcases List.mem_append.1 hz with h1 | h1
    · exact h.rch z h1
    · simp at h1; subst h1; exact (h.rch x (List.mem_of_getElem? hx)).step (mem_outs.1 hy)
  s0 := List.mem_append_left _ h.s0
  done k z hk hz w hw := by
    have hlt : k < L.length := by have := (List.getElem?_eq_some_iff.1 hx).1; omega
    rw [List.getElem?_append_left hlt] at hz
    exact List.mem_append_left _ (h.done k z hk hz w hw)

theorem Bfs.next {s : Lts} {L : List Int} {i : Nat} {x : Int} (h : Bfs s L i) (hx : L[i]? = some x) (ha : ∀ y ∈ s.outs x, y.2 ∈ L) : Bfs s L (i + 1) where
  nd := h.nd
  rng := h.rng
  rch := h.rch
  s0 := h.s0
  done k z hk hz := by
    by_cases hki : k = i
    · subst hki; rw [hx] at hz; simp at hz; subst hz; exact ha
    · exact h.done k z (by omega) hz

theorem Bfs.all {s : Lts} {L : List Int} (h : Bfs s L L.length) (x : Int) : x ∈ L ↔ Rch s x := by
  refine ⟨h.rch x, fun hr => hr (· ∈ L) h.s0 ?_⟩
  intro a l b ha he
  obtain ⟨k, hk, rfl⟩ := List.getElem_of_mem ha
  exact h.done k _ hk (List.getElem?_eq_getElem hk) (l, b) (mem_outs.2 he)

open Classical in
/-- The reachable states, rising. -/
noncomputable def reachL (s : Lts) : List Int := ((List.range s.st.toNat).map Int.ofNat).filter (fun x => decide (Rch s x))

theorem Rch.rng {s : Lts} (h : s.Right) (h0 : s.st ≠ 0) {x : Int} (hx : Rch s x) : 0 ≤ x ∧ x < s.st := by
  have := h.st0
  refine hx (fun x => 0 ≤ x ∧ x < s.st) (by omega) ?_
  intro a l b _ he
  have := offB_false.1 (h.edges _ he)
  exact ⟨this.2.2.2.2.1, this.2.2.2.2.2⟩

theorem mem_reachL {s : Lts} (h : s.Right) (h0 : s.st ≠ 0) {x : Int} : x ∈ reachL s ↔ Rch s x := by
  unfold reachL
  simp only [List.mem_filter, List.mem_map, List.mem_range, decide_eq_true_eq]
  constructor
  · rintro ⟨_, h⟩; exact h
  · intro hx
    have := hx.rng h h0
    exact ⟨⟨x.toNat, by omega, by simp; omega⟩, hx⟩

theorem reachL_srt (s : Lts) : Srt ltI (reachL s) := by
  classical
  refine List.Pairwise.filter _ ?_
  rw [List.pairwise_map]
  refine List.pairwise_lt_range.imp (fun {a b} h => ?_)
  simp [ltI]; omega

theorem reachL_nil {s : Lts} (h0 : s.st = 0) : reachL s = [] := by unfold reachL; rw [h0]; rfl

/-- A list that was sorted, of no repeats: the reachable states. -/
theorem reach_of {s : Lts} (h : s.Right) (h0 : s.st ≠ 0) {L : List Int} (hb : Bfs s L L.length) : L.mergeSort (fun x y => decide (x ≤ y)) = reachL s := by
  have hp := List.mergeSort_perm L (fun x y => decide (x ≤ y))
  refine srt_ext stoI _ _ ?_ (reachL_srt s) (fun x => ?_)
  · have hs := List.pairwise_mergeSort (le := fun (x y : Int) => decide (x ≤ y)) (fun a b c h1 h2 => by simp at *; omega) (fun a b => by simp; omega) L
    have hnd := hp.nodup_iff.2 hb.nd
    exact List.Pairwise.imp₂ (fun a b h1 h2 => by simp [ltI] at *; omega) hs hnd
  · rw [hp.mem_iff, hb.all, mem_reachL h h0]

theorem reachL_len {s : Lts} : (reachL s).length ≤ s.st.toNat := by
  unfold reachL
  refine Nat.le_trans (List.length_filter_le _ _) (by simp)

end Pl
end Go.Proofs.YtbbjmompbmgnmaaDoor
