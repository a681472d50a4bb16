/-
  Plain: the system of the reachable states alone.
-/
import Derived.Test.YtkmljelgogcobaaGreatDoorGPl3
namespace Go.Proofs.YtkmljelgogcobaaGreatDoor
namespace Pl

/-- How many of a list are below a number. -/
def cnt (L : List Int) (k : Int) : Nat := (L.filter (fun x => decide (x < k))).length

theorem cnt_idx : ∀ (L : List Int), Srt ltI L → ∀ x ∈ L, L.idxOf x = cnt L x
  | [], _, x, h => by simp at h
  | y :: L, hs, x, h => by
    have hy := List.pairwise_cons.1 hs
    unfold cnt
    by_cases e : y = x
    · subst e
      have hn : L.filter (fun z => decide (z < y)) = [] := by
        rw [List.filter_eq_nil_iff]; intro z hz
        have := hy.1 z hz; simp [ltI] at this; simp; omega
      first | simp [hn] | simp [List.filter_cons, hn]
    · have hx : x ∈ L := by simpa [fun h => e (Eq.symm h), Ne.symm e] using h
      have hlt : y < x := by have := hy.1 x hx; simpa [ltI] using this
      have ih := cnt_idx L hy.2 x hx
      unfold cnt at ih
      rw [List.idxOf_cons]
      have hb : (y == x) = false := by simp [e]
      simp only [hb, List.filter_cons, decide_eq_true hlt, if_true, List.length_cons, cond_false]
      omega

theorem cnt_zero {L : List Int} (h : ∀ x ∈ L, 0 ≤ x) : cnt L 0 = 0 := by
  unfold cnt
  rw [List.length_eq_zero_iff, List.filter_eq_nil_iff]
  intro x hx; have := h x hx; simp; omega
theorem cnt_all {L : List Int} {n : Int} (h : ∀ x ∈ L, x < n) : cnt L n = L.length := by
  unfold cnt
  rw [List.filter_eq_self.2]
  intro x hx; have := h x hx; simp; omega
theorem cnt_succ : ∀ {L : List Int}, Srt ltI L → ∀ k : Int, cnt L (k + 1) = cnt L k + (if k ∈ L then 1 else 0)
  | [], _, k => by simp [cnt]
  | y :: L, hs, k => by
    have hy := List.pairwise_cons.1 hs
    have ih := cnt_succ hy.2 k
    unfold cnt at *
    rcases Int.lt_trichotomy y k with h | h | h
    · have b1 : decide (y < k + 1) = true := by simp; omega
      have b2 : decide (y < k) = true := by simp; omega
      simp only [List.filter_cons, b1, b2, if_true, List.length_cons, ih, List.mem_cons]
      have : k ≠ y := by omega
      simp [this]; omega
    · subst h
      have hn : y ∉ L := fun h => by have := hy.1 y h; simp [ltI] at this
      have b1 : decide (y < y + 1) = true := by simp; omega
      have b2 : decide (y < y) = false := by simp
      simp only [hn, if_false, Nat.add_zero] at ih
      first | simp [b1, ih] | simp [List.filter_cons, b1, b2, ih]
    · have b1 : decide (y < k + 1) = false := by simp; omega
      have b2 : decide (y < k) = false := by simp; omega
      have hn : k ∉ L := fun hk => by have := hy.1 k hk; simp [ltI] at this; omega
      simp only [hn, if_false, Nat.add_zero] at ih
      have : k ≠ y := by omega
      first | simp [b1, b2, ih, hn, this] | simp [List.filter_cons, b1, b2, ih, hn, this]

theorem srt_nodup {L : List Int} (h : Srt ltI L) : L.Nodup := h.imp (fun {a b} h => by simp [ltI] at h; omega)

theorem idx_get : ∀ {L : List Int}, L.Nodup → ∀ {i : Nat} {x : Int}, L[i]? = some x → L.idxOf x = i
  | [], _, i, x, h => by simp at h
  | y :: L, hn, 0, x, h => by simp at h; subst h; simp
  | y :: L, hn, i + 1, x, h => by
    have hy := List.nodup_cons.1 hn
    have hx : L[i]? = some x := by simpa using h
    have hb : (y == x) = false := by
      simp; rintro rfl; exact hy.1 (List.mem_of_getElem? hx)
    rw [List.idxOf_cons, hb, idx_get hy.2 hx]; rfl

/-- The new number of a state. -/
noncomputable def toOf (s : Lts) (x : Int) : Int := if x ∈ reachL s then ((reachL s).idxOf x : Int) else -1
noncomputable def toL (s : Lts) : List Int := (List.range s.st.toNat).map (fun (i : Nat) => toOf s (i : Int))
noncomputable def cutE (s : Lts) : List E := (s.es.filter (fun x => decide (0 ≤ toOf s x.1))).map (fun x => (toOf s x.1, x.2.1, toOf s x.2.2))
noncomputable def cut (s : Lts) : Lts := ⟨(reachL s).length, s.lb, if (reachL s).length = 0 then 0 else toOf s s.s0, cutE s⟩

theorem toL_len (s : Lts) : (toL s).length = s.st.toNat := by simp [toL]
theorem toL_get {s : Lts} {i : Nat} (h : i < s.st.toNat) : (toL s)[i]? = some (toOf s (i : Int)) := by simp [toL, h]
theorem toOf_in {s : Lts} {x : Int} (h : x ∈ reachL s) : toOf s x = ((reachL s).idxOf x : Int) ∧ 0 ≤ toOf s x ∧ toOf s x < (reachL s).length := by
  have := List.idxOf_lt_length_of_mem h
  unfold toOf; rw [if_pos h]; omega
theorem toOf_out {s : Lts} {x : Int} (h : x ∉ reachL s) : toOf s x = -1 := by unfold toOf; rw [if_neg h]
theorem toOf_iff {s : Lts} {x : Int} : 0 ≤ toOf s x ↔ x ∈ reachL s := by
  by_cases h : x ∈ reachL s
  · simp [h, (toOf_in h).2.1]
  · rw [toOf_out h]; simp [h]
theorem toOf_get {s : Lts} {i : Nat} {x : Int} (h : (reachL s)[i]? = some x) : toOf s x = i := by
  rw [(toOf_in (List.mem_of_getElem? h)).1, idx_get (srt_nodup (reachL_srt s)) h]
theorem toOf_cnt {s : Lts} {x : Int} (h : x ∈ reachL s) : toOf s x = (cnt (reachL s) x : Int) := by
  rw [(toOf_in h).1, cnt_idx _ (reachL_srt s) _ h]

theorem reachL_rng {s : Lts} {x : Int} (h : x ∈ reachL s) : 0 ≤ x ∧ x < s.st := by
  unfold reachL at h
  obtain ⟨h1, _⟩ := List.mem_filter.1 h
  obtain ⟨i, hi, rfl⟩ := List.mem_map.1 h1
  rw [List.mem_range] at hi
  show 0 ≤ (i : Int) ∧ (i : Int) < s.st
  omega
theorem reachL_step {s : Lts} (hr : s.Right) {x : E} (hx : x ∈ s.es) (h : x.1 ∈ reachL s) : x.2.2 ∈ reachL s := by
  have h1 := offB_false.1 (hr.edges x hx)
  have h0 : s.st ≠ 0 := by omega
  rw [mem_reachL hr h0] at *
  exact h.step (l := x.2.1) hx

theorem mem_cutE {s : Lts} {y : E} : y ∈ cutE s ↔ ∃ x ∈ s.es, x.1 ∈ reachL s ∧ y = (toOf s x.1, x.2.1, toOf s x.2.2) := by
  unfold cutE
  simp only [List.mem_map, List.mem_filter, decide_eq_true_eq, toOf_iff]
  constructor
  · rintro ⟨x, ⟨h1, h2⟩, rfl⟩; exact ⟨x, h1, h2, rfl⟩
  · rintro ⟨x, h1, h2, rfl⟩; exact ⟨x, ⟨h1, h2⟩, rfl⟩

theorem start_in {s : Lts} (hr : s.Right) (h : s.st ≠ 0) : s.s0 ∈ reachL s := (mem_reachL hr h).2 (Rch.start s)

theorem cutE_len (s : Lts) : (cutE s).length ≤ s.es.length := by
  unfold cutE; rw [List.length_map]; exact List.length_filter_le _ _

theorem cut_right {s : Lts} (hr : s.Right) : (cut s).Right := by
  have h0 := hr.st0
  have hl := reachL_len (s := s)
  refine ⟨?_, fun y hy => ?_⟩
  · have h2 := cutE_len s
    have h3 : 0 ≤ (cut s).s0 ∧ ((cut s).s0 = 0 ∨ (cut s).s0 < (reachL s).length) := by
      simp only [cut]
      split
      · simp
      · rename_i hne
        have hst : s.st ≠ 0 := fun e => hne (by rw [reachL_nil e]; rfl)
        have := toOf_in (start_in hr hst)
        omega
    unfold HeadBad
    simp only [cut] at *
    omega
  · obtain ⟨x, hx, hxr, rfl⟩ := mem_cutE.1 hy
    have h1 := toOf_in hxr
    have h2 := toOf_in (reachL_step hr hx hxr)
    have h3 := offB_false.1 (hr.edges x hx)
    rw [offB_false]
    simp only [cut]
    omega

theorem cut_rch {s : Lts} (hr : s.Right) (h0 : s.st ≠ 0) {x : Int} (h : Rch s x) : Rch (cut s) (toOf s x) := by
  have hs := start_in hr h0
  have hne : (reachL s).length ≠ 0 := fun e => by rw [List.eq_nil_of_length_eq_zero e] at hs; simp at hs
  have := h (fun x => Rch s x ∧ Rch (cut s) (toOf s x)) ⟨Rch.start s, by
    have := Rch.start (cut s)
    simp only [cut, hne, if_false] at this ⊢
    exact this⟩ (by
    rintro a l b ⟨h1, h2⟩ he
    refine ⟨h1.step he, h2.step (l := l) ?_⟩
    exact mem_cutE.2 ⟨(a, l, b), he, (mem_reachL hr h0).2 h1, rfl⟩)
  exact this.2

theorem rch_norm {s : Lts} {x : Int} (h : Rch s x) : Rch s.norm x :=
  fun P h0 h1 => h P h0 (fun a l b ha he => h1 a l b ha ((mem_nf stoE _ s.es).2 he))
theorem rch_of_norm {s : Lts} {x : Int} (h : Rch s.norm x) : Rch s x :=
  fun P h0 h1 => h P h0 (fun a l b ha he => h1 a l b ha ((mem_nf stoE _ s.es).1 he))
theorem reachL_norm (s : Lts) : reachL s.norm = reachL s := by
  unfold reachL
  congr 1
  funext x
  congr 1
  exact propext ⟨rch_of_norm, rch_norm⟩

/-- All of the cut's states are reachable. -/
theorem cut_all {s : Lts} (hr : s.Right) (h0 : s.st ≠ 0) : (reachL (cut s).norm).length = (reachL s).length := by
  rw [reachL_norm]
  have hst : (cut s).st = ((reachL s).length : Int) := rfl
  have hc : reachL (cut s) = (List.range (reachL s).length).map Int.ofNat := by
    unfold reachL
    rw [hst, Int.toNat_natCast]
    rw [List.filter_eq_self.2]
    · rfl
    intro x hx
    obtain ⟨i, hi, rfl⟩ := List.mem_map.1 hx
    rw [List.mem_range] at hi
    obtain ⟨y, hy⟩ : ∃ y, (reachL s)[i]? = some y := ⟨_, List.getElem?_eq_getElem hi⟩
    have := cut_rch hr h0 ((mem_reachL hr h0).1 (List.mem_of_getElem? hy))
    rw [toOf_get hy] at this
    simpa using this
  rw [hc]; simp

end Pl
end Go.Proofs.YtkmljelgogcobaaGreatDoor
