/-
  Plain: the system of the reachable states alone.
  Plain: the one form of a list of class numbers.
-/
import Derived.Test.YtclannenknhfpaaGreatDoorGPl1
namespace Go.Proofs.YtclannenknhfpaaGreatDoor
namespace Pl

/-- How many of a list are below a number. -/
def cnt (L : List Int) (k : Int) : Nat := (L.filter (fun x => decide (x < k))).length

theorem cnt_idx : ∀ (L : List Int), Srt ltI L → ∀ x ∈ L, L.idxOf x = cnt L x
  | [], _, x, h => by simp at h
  | y :: L, hs, x, h => by
    have hy := List.pairwise_cons.1 hs
    unfold cnt
    by_cases e : y = x
    · subst e
      have hn : L.filter (fun z => decide (z < y)) = [] := by
        rw [List.filter_eq_nil_iff]; intro z hz
        have := hy.1 z hz; simp [ltI] at this; simp; omega
      first | simp [hn] | simp [List.filter_cons, hn]
    · have hx : x ∈ L := by simpa [fun h => e (Eq.symm h), Ne.symm e] using h
      have hlt : y < x := by have := hy.1 x hx; simpa [ltI] using this
      have ih := cnt_idx L hy.2 x hx
      unfold cnt at ih
      rw [List.idxOf_cons]
      have hb : (y == x) = false := by simp [e]
      simp only [hb, List.filter_cons, decide_eq_true hlt, if_true, List.length_cons, cond_false]
      omega

theorem cnt_zero {L : List Int} (h : ∀ x ∈ L, 0 ≤ x) : cnt L 0 = 0 := by
  unfold cnt
  rw [List.length_eq_zero_iff, List.filter_eq_nil_iff]
  intro x hx; have := h x hx; simp; omega
theorem cnt_all {L : List Int} {n : Int} (h : ∀ x ∈ L, x < n) : cnt L n = L.length := by
  unfold cnt
  rw [List.filter_eq_self.2]
  intro x hx; have := h x hx; simp; omega
theorem cnt_succ : ∀ {L : List Int}, Srt ltI L → ∀ k : Int, cnt L (k + 1) = cnt L k + (if k ∈ L then 1 else 0)
  | [], _, k => by simp [cnt]
  | y :: L, hs, k => by
    have hy := List.pairwise_cons.1 hs
    have ih := cnt_succ hy.2 k
    unfold cnt at *
    rcases Int.lt_trichotomy y k with h | h | h
    · have b1 : decide (y < k + 1) = true := by simp; omega
      have b2 : decide (y < k) = true := by simp; omega
      simp only [List.filter_cons, b1, b2, if_true, List.length_cons, ih, List.mem_cons]
      have : k ≠ y := by omega
      simp [this]; omega
    · subst h
      have hn : y ∉ L := fun h => by have := hy.1 y h; simp [ltI] at this
      have b1 : decide (y < y + 1) = true := by simp; omega
      have b2 : decide (y < y) = false := by simp
      simp only [hn, if_false, Nat.add_zero] at ih
      first | simp [b1, ih] | simp [List.filter_cons, b1, b2, ih]
    · have b1 : decide (y < k + 1) = false := by simp; omega
      have b2 : decide (y < k) = false := by simp; omega
      have hn : k ∉ L := fun hk => by have := hy.1 k hk; simp [ltI] at this; omega
      simp only [hn, if_false, Nat.add_zero] at ih
      have : k ≠ y := by omega
      first | simp [b1, b2, ih, hn, this] | simp [List.filter_cons, b1, b2, ih, hn, this]

theorem srt_nodup {L : List Int} (h : Srt ltI L) : L.Nodup := h.imp (fun {a b} h => by simp [ltI] at h; omega)

theorem idx_get : ∀ {L : List Int}, L.Nodup → ∀ {i : Nat} {x : Int}, L[i]? = some x → L.idxOf x = i
  | [], _, i, x, h => by simp at h
  | y :: L, hn, 0, x, h => by simp at h; subst h; simp
  | y :: L, hn, i + 1, x, h => by
    have hy := List.nodup_cons.1 hn
    have hx : L[i]? = some x := by simpa using h
    have hb : (y == x) = false := by
      simp; rintro rfl; exact hy.1 (List.mem_of_getElem? hx)
    rw [List.idxOf_cons, hb, idx_get hy.2 hx]; rfl

/-- The new number of a state. -/
noncomputable def toOf (s : Lts) (x : Int) : Int := if x ∈ reachL s then ((reachL s).idxOf x : Int) else -1
noncomputable def toL (s : Lts) : List Int := (List.range s.st.toNat).map (fun (i : Nat) => toOf s (i : Int))
noncomputable def cutE (s : Lts) : List E := (s.es.filter (fun x => decide (0 ≤ toOf s x.1))).map (fun x => (toOf s x.1, x.2.1, toOf s x.2.2))
noncomputable def cut (s : Lts) : Lts := ⟨(reachL s).length, s.lb, if (reachL s).length = 0 then 0 else toOf s s.s0, cutE s⟩

theorem toL_len (s : Lts) : (toL s).length = s.st.toNat := by simp [toL]
theorem toL_get {s : Lts} {i : Nat} (h : i < s.st.toNat) : (toL s)[i]? = some (toOf s (i : Int)) := by simp [toL, h]
theorem toOf_in {s : Lts} {x : Int} (h : x ∈ reachL s) : toOf s x = ((reachL s).idxOf x : Int) ∧ 0 ≤ toOf s x ∧ toOf s x < (reachL s).length := by
  have := List.idxOf_lt_length_of_mem h
  unfold toOf; rw [if_pos h]; omega
theorem toOf_out {s : Lts} {x : Int} (h : x ∉ reachL s) : toOf s x = -1 := by unfold toOf; rw [if_neg h]
theorem toOf_iff {s : Lts} {x : Int} : 0 ≤ toOf s x ↔ x ∈ reachL s := by
  by_cases h : x ∈ reachL s
  · simp [h, (toOf_in h).2.1]
  · rw [toOf_out h]; simp [h]
theorem toOf_get {s : Lts} {i : Nat} {x : Int} (h : (reachL s)[i]? = some x) : toOf s x = i := by
  rw [(toOf_in (List.mem_of_getElem? h)).1, idx_get (srt_nodup (reachL_srt s)) h]
theorem toOf_cnt {s : Lts} {x : Int} (h : x ∈ reachL s) : toOf s x = (cnt (reachL s) x : Int) := by
  rw [(toOf_in h).1, cnt_idx _ (reachL_srt s) _ h]

theorem reachL_rng {s : Lts} {x : Int} (h : x ∈ reachL s) : 0 ≤ x ∧ x < s.st := by
  unfold reachL at h
  obtain ⟨h1, _⟩ := List.mem_filter.1 h
  obtain ⟨i, hi, rfl⟩ := List.mem_map.1 h1
  rw [List.mem_range] at hi
  show 0 ≤ (i : Int) ∧ (i : Int) < s.st
  omega
theorem reachL_step {s : Lts} (hr : s.Right) {x : E} (hx : x ∈ s.es) (h : x.1 ∈ reachL s) : x.2.2 ∈ reachL s := by
  have h1 := offB_false.1 (hr.edges x hx)
  have h0 : s.st ≠ 0 := by omega
  rw [mem_reachL hr h0] at *
  exact h.step (l := x.2.1) hx

theorem mem_cutE {s : Lts} {y : E} : y ∈ cutE s ↔ ∃ x ∈ s.es, x.1 ∈ reachL s ∧ y = (toOf s x.1, x.2.1, toOf s x.2.2) := by
  unfold cutE
  simp only [List.mem_map, List.mem_filter, decide_eq_true_eq, toOf_iff]
  constructor
  · rintro ⟨x, ⟨h1, h2⟩, rfl⟩; exact ⟨x, h1, h2, rfl⟩
  · rintro ⟨x, h1, h2, rfl⟩; exact ⟨x, ⟨h1, h2⟩, rfl⟩

theorem start_in {s : Lts} (hr : s.Right) (h : s.st ≠ 0) : s.s0 ∈ reachL s := (mem_reachL hr h).2 (Rch.start s)

theorem cutE_len (s : Lts) : (cutE s).length ≤ s.es.length := by
  unfold cutE; rw [List.length_map]; exact List.length_filter_le _ _

theorem cut_right {s : Lts} (hr : s.Right) : (cut s).Right := by
  have h0 := hr.st0
  have hl := reachL_len (s := s)
  refine ⟨?_, fun y hy => ?_⟩
  · have h2 := cutE_len s
    have h3 : 0 ≤ (cut s).s0 ∧ ((cut s).s0 = 0 ∨ (cut s).s0 < (reachL s).length) := by
      simp only [cut]
      split
      · simp
      · rename_i hne
        have hst : s.st ≠ 0 := fun e => hne (by rw [reachL_nil e]; rfl)
        have := toOf_in (start_in hr hst)
        omega
    unfold HeadBad
    simp only [cut] at *
    omega
  · obtain ⟨x, hx, hxr, rfl⟩ := mem_cutE.1 hy
    have h1 := toOf_in hxr
    have h2 := toOf_in (reachL_step hr hx hxr)
    have h3 := offB_false.1 (hr.edges x hx)
    rw [offB_false]
    simp only [cut]
    omega

theorem cut_rch {s : Lts} (hr : s.Right) (h0 : s.st ≠ 0) {x : Int} (h : Rch s x) : Rch (cut s) (toOf s x) := by
  have hs := start_in hr h0
  have hne : (reachL s).length ≠ 0 := fun e => by rw [List.eq_nil_of_length_eq_zero e] at hs; simp at hs
  have := h (fun x => Rch s x ∧ Rch (cut s) (toOf s x)) ⟨Rch.start s, by
    have := Rch.start (cut s)
    simp only [cut, hne, if_false] at this ⊢
    exact this⟩ (by
    rintro a l b ⟨h1, h2⟩ he
    refine ⟨h1.step he, h2.step (l := l) ?_⟩
    exact mem_cutE.2 ⟨(a, l, b), he, (mem_reachL hr h0).2 h1, rfl⟩)
  exact this.2

theorem rch_norm {s : Lts} {x : Int} (h : Rch s x) : Rch s.norm x :=
  fun P h0 h1 => h P h0 (fun a l b ha he => h1 a l b ha ((mem_nf stoE _ s.es).2 he))
theorem rch_of_norm {s : Lts} {x : Int} (h : Rch s.norm x) : Rch s x :=
  fun P h0 h1 => h P h0 (fun a l b ha he => h1 a l b ha ((mem_nf stoE _ s.es).1 he))
theorem reachL_norm (s : Lts) : reachL s.norm = reachL s := by
  unfold reachL
  congr 1
  funext x
  congr 1
  exact propext ⟨rch_of_norm, rch_norm⟩

/-- All of the cut's states are reachable. -/
theorem cut_all {s : Lts} (hr : s.Right) (h0 : s.st ≠ 0) : (reachL (cut s).norm).length = (reachL s).length := by
  rw [reachL_norm]
  have hst : (cut s).st = ((reachL s).length : Int) := rfl
  have hc : reachL (cut s) = (List.range (reachL s).length).map Int.ofNat := by
    unfold reachL
    rw [hst, Int.toNat_natCast]
    rw [List.filter_eq_self.2]
    · rfl
    intro x hx
    obtain ⟨i, hi, rfl⟩ := List.mem_map.1 hx
    rw [List.mem_range] at hi
    obtain ⟨y, hy⟩ : ∃ y, (reachL s)[i]? = some y := ⟨_, List.getElem?_eq_getElem hi⟩
    have := cut_rch hr h0 ((mem_reachL hr h0).1 (List.mem_of_getElem? hy))
    rw [toOf_get hy] at this
    simpa using this
  rw [hc]; simp

end Pl
end Go.Proofs.YtclannenknhfpaaGreatDoor

namespace Go.Proofs.YtclannenknhfpaaGreatDoor
namespace Pl

/-- What a list holds, each once, in the order in which it comes first. -/
def addN (s : List Int) (x : Int) : List Int := if x ∈ s then s else s ++ [x]
def dist (l : List Int) : List Int := l.foldl addN []

theorem dist_snoc (l : List Int) (x : Int) : dist (l ++ [x]) = addN (dist l) x := by simp [dist, List.foldl_append]

theorem mem_addN {s : List Int} {x y : Int} : y ∈ addN s x ↔ y ∈ s ∨ y = x := by
  unfold addN; split
  · constructor
    · exact Or.inl
    · rintro (h | rfl)
      · exact h
      · assumption
  · simp

theorem rev_ind {P : List Int → Prop} (h0 : P []) (h1 : ∀ l x, P l → P (l ++ [x])) (l : List Int) : P l := by
  have : ∀ m : List Int, P m.reverse := by
    intro m
    induction m with
    | nil => exact h0
    | cons x m ih => rw [List.reverse_cons]; exact h1 _ _ ih
  simpa using this l.reverse

theorem mem_dist {x : Int} (l : List Int) : x ∈ dist l ↔ x ∈ l := by
  induction l using rev_ind with
  | h0 => simp [dist]
  | h1 l y ih => rw [dist_snoc, mem_addN, ih]; simp

theorem nodup_dist (l : List Int) : (dist l).Nodup := by
  induction l using rev_ind with
  | h0 => simp [dist]
  | h1 l y ih =>
    rw [dist_snoc]; unfold addN; split
    · exact ih
    · rw [List.nodup_append]; exact ⟨ih, by simp, by intro a ha b hb e; simp at hb; subst hb; subst e; contradiction⟩

theorem dist_len (l : List Int) : (dist l).length ≤ l.length := by
  induction l using rev_ind with
  | h0 => simp [dist]
  | h1 l y ih => rw [dist_snoc]; unfold addN; split <;> simp <;> omega

/-- A longer list: no place turns. -/
theorem idx_addN {s : List Int} {x y : Int} (h : y ∈ s) : (addN s x).idxOf y = s.idxOf y := by
  unfold addN; split
  · rfl
  · rw [List.idxOf_append]; simp [h]
theorem idx_new {s : List Int} {x : Int} (h : x ∉ s) : (addN s x).idxOf x = s.length := by
  unfold addN; rw [if_neg h, List.idxOf_append]; simp [h]

theorem idx_append (l m : List Int) {y : Int} (h : y ∈ l) : (dist (l ++ m)).idxOf y = (dist l).idxOf y := by
  induction m using rev_ind with
  | h0 => simp
  | h1 m x ih => rw [← List.append_assoc, dist_snoc, idx_addN ((mem_dist _).2 (by simp [h])), ih]

def canon (l : List Int) : List Int := l.map (fun x => ((dist l).idxOf x : Int))

theorem canon_len (l : List Int) : (canon l).length = l.length := by simp [canon]

theorem canon_get (l : List Int) (i : Nat) : (canon l)[i]? = l[i]?.map (fun x => ((dist l).idxOf x : Int)) := by simp [canon]

theorem idx_inj {l : List Int} {x y : Int} (hx : x ∈ l) (hy : y ∈ l) (h : l.idxOf x = l.idxOf y) : x = y := by
  have h1 := List.getElem_idxOf (List.idxOf_lt_length_of_mem hx)
  have h2 := List.getElem_idxOf (List.idxOf_lt_length_of_mem hy)
  rw [← h1, ← h2]
  congr 1

theorem addN_map {f : Int → Int} {s : List Int} {x : Int} (hf : ∀ y ∈ s, f y = f x → y = x) : addN (s.map f) (f x) = (addN s x).map f := by
  unfold addN
  by_cases h : x ∈ s
  · rw [if_pos h, if_pos (List.mem_map_of_mem h)]
  · rw [if_neg h, if_neg]
    · simp
    · intro hm; obtain ⟨y, hy, e⟩ := List.mem_map.1 hm; exact h (hf y hy e ▸ hy)

theorem dist_map {f : Int → Int} (l : List Int) (hf : ∀ x ∈ l, ∀ y ∈ l, f x = f y → x = y) : dist (l.map f) = (dist l).map f := by
  induction l using rev_ind with
  | h0 => simp [dist]
  | h1 l y ih =>
    rw [List.map_append, List.map_cons, List.map_nil, dist_snoc, ih (fun a ha b hb => hf a (by simp [ha]) b (by simp [hb])), dist_snoc]
    exact addN_map (fun z hz => hf z (by simp [(mem_dist l).1 hz]) y (by simp))

theorem idx_map {f : Int → Int} {x : Int} : ∀ l : List Int, (∀ y ∈ l, f y = f x → y = x) → (l.map f).idxOf (f x) = l.idxOf x
  | [], _ => rfl
  | y :: l, h => by
    have ih := idx_map l (fun z hz => h z (by simp [hz]))
    rw [List.map_cons, List.idxOf_cons, List.idxOf_cons]
    by_cases e : y = x
    · subst e; simp
    · have : ¬ f y = f x := fun e2 => e (h y (by simp) e2)
      simp only [beq_iff_eq, e, this, if_false, ih, cond_eq_ite]

theorem canon_map {f : Int → Int} {l : List Int} (hf : ∀ x ∈ l, ∀ y ∈ l, f x = f y → x = y) : canon (l.map f) = canon l := by
  unfold canon
  rw [List.map_map, dist_map l hf]
  apply List.map_congr_left
  intro x hx
  simp only [Function.comp]
  rw [idx_map _ (fun y hy => hf y ((mem_dist l).1 hy) x hx)]

theorem canon_canon (l : List Int) : canon (canon l) = canon l := by
  conv => lhs; arg 1; unfold canon
  exact canon_map (fun x hx y hy h => idx_inj ((mem_dist l).2 hx) ((mem_dist l).2 hy) (Int.ofNat.inj h))

theorem canon_eq_iff {l : List Int} {i k : Nat} {x y : Int} (hx : l[i]? = some x) (hy : l[k]? = some y) : ((dist l).idxOf x : Int) = ((dist l).idxOf y : Int) ↔ x = y := by
  constructor
  · intro h; exact idx_inj ((mem_dist l).2 (List.mem_of_getElem? hx)) ((mem_dist l).2 (List.mem_of_getElem? hy)) (Int.ofNat.inj h)
  · rintro rfl; rfl

/-- Do two lists say the same together? -/
def SameT (a b : List Int) : Prop := ∀ (i k : Nat) (x y x' y' : Int), k < i → a[i]? = some x → a[k]? = some y → b[i]? = some x' → b[k]? = some y' → (x = y ↔ x' = y')

theorem sameT_canon {a b : List Int} (hl : a.length = b.length) : canon a = canon b ↔ SameT a b := by
  constructor
  · intro h i k x y x' y' _ hx hy hx' hy'
    have e1 := congrArg (fun l => l[i]?) h
    have e2 := congrArg (fun l => l[k]?) h
    simp only [canon_get, hx, hy, hx', hy', Option.map_some, Option.some.injEq] at e1 e2
    rw [← canon_eq_iff hx hy, ← canon_eq_iff hx' hy', e1, e2]
  · intro h
    have hs : ∀ (i k : Nat) (x y x' y' : Int), a[i]? = some x → a[k]? = some y → b[i]? = some x' → b[k]? = some y' → (x = y ↔ x' = y') := by
      intro i k x y x' y' hx hy hx' hy'
      rcases Nat.lt_trichotomy k i with hlt | rfl | hlt
      · exact h i k x y x' y' hlt hx hy hx' hy'
      · rw [hx] at hy; rw [hx'] at hy'; simp at hy hy'; simp [hy, hy']
      · have := h k i y x y' x' hlt hy hx hy' hx'
        rw [eq_comm, this, eq_comm]
    have hb : b = a.map (fun x => b.getD (a.idxOf x) 0) := by
      apply List.ext_getElem?
      intro i
      by_cases hi : i < a.length
      · have hx := List.getElem?_eq_getElem hi
        have hx' := List.getElem?_eq_getElem (show i < b.length by omega)
        have hm : a[i] ∈ a := List.getElem_mem hi
        have hlt := List.idxOf_lt_length_of_mem hm
        have hj : a[a.idxOf a[i]]? = some a[i] := by rw [List.getElem?_eq_getElem hlt, List.getElem_idxOf hlt]
        have hj' := List.getElem?_eq_getElem (show a.idxOf a[i] < b.length by omega)
        rw [List.getElem?_map, hx, hx']
        simp only [Option.map_some, Option.some.injEq]
        rw [List.getD_eq_getElem?_getD, hj']
        simpa using (hs i _ _ _ _ _ hx hj hx' hj').1 rfl
      · rw [List.getElem?_eq_none (by omega), List.getElem?_eq_none (by simp; omega)]
    rw [hb]
    refine (canon_map ?_).symm
    intro x hx y hy he
    obtain ⟨i, hi, rfl⟩ := List.getElem_of_mem hx
    obtain ⟨k, hk, rfl⟩ := List.getElem_of_mem hy
    have hm1 := List.idxOf_lt_length_of_mem hx
    have hm2 := List.idxOf_lt_length_of_mem hy
    have hj1 : a[a.idxOf a[i]]? = some a[i] := by rw [List.getElem?_eq_getElem hm1, List.getElem_idxOf hm1]
    have hj2 : a[a.idxOf a[k]]? = some a[k] := by rw [List.getElem?_eq_getElem hm2, List.getElem_idxOf hm2]
    rw [List.getD_eq_getElem?_getD, List.getD_eq_getElem?_getD, List.getElem?_eq_getElem (show a.idxOf a[i] < b.length by omega), List.getElem?_eq_getElem (show a.idxOf a[k] < b.length by omega)] at he
    exact (hs _ _ _ _ _ _ hj1 hj2 (List.getElem?_eq_getElem (by omega)) (List.getElem?_eq_getElem (by omega))).2 (by simpa using he)

end Pl
end Go.Proofs.YtclannenknhfpaaGreatDoor
