/-
  semblancebook.Book as a whole: what a book holds; each kind's still, put, grow, marked on it.
-/
import Derived.Test.YtkmljelgogcobaaGreatDoorBkF
namespace Go.Proofs.YtkmljelgogcobaaGreatDoor
open Go.RowKit Pl

/-- What is kept of one kind: the rows of slices, the lists, their copies. -/
structure KS where
  o : Value
  p : Value
  ks : List Rw
  ws : List Rw
def KS.kd (T : TypeId) (s : KS) : Kd := ⟨T, s.o, s.p, s.ks.map (·.v), s.ws.map (·.v), s.ks ++ s.ws⟩
def KS.zero : KS := ⟨.slice none 0 0, .slice none 0 0, [], []⟩
/-- The kinds in the order of the struct. -/
def bkL (I B S E N W : KS) : List Kd := [I.kd 49, KS.zero.kd 144, KS.zero.kd 146, B.kd 81, S.kd 46, E.kd 22, KS.zero.kd 149, KS.zero.kd 151, N.kd 32, KS.zero.kd 33, W.kd 36]

/-- Lists of one kind of elements, and their copies. -/
structure FlOk {α : Type} (T : TypeId) (k : Nat) (enc : α → List Value) (s : KS) : Prop where
  hl : s.ks.length = s.ws.length
  h4 : s.ks.length ≤ 400
  at_ : ∀ (i : Nat) (r r' : Rw), s.ks[i]? = some r → s.ws[i]? = some r' → r.T = T ∧ r.k = k ∧ r'.T = T ∧ r'.k = k ∧ ∃ ys : List α, ys.length ≤ 500000 ∧ r.n = ys.length ∧ r'.n = ys.length ∧ r.xs = ys.flatMap enc ∧ r'.xs = ys.flatMap enc
/-- Lists of rows, and their copies: each row is one of A. -/
structure NeOk {α : Type} (T IL : TypeId) (k : Nat) (enc : α → List Value) (A : List Rw) (s : KS) : Prop where
  hl : s.ks.length = s.ws.length
  h4 : s.ks.length ≤ 400
  at_ : ∀ (i : Nat) (r r' : Rw), s.ks[i]? = some r → s.ws[i]? = some r' → r.T = IL ∧ r.k = 1 ∧ r'.T = IL ∧ r'.k = 1 ∧ r.n = r'.n ∧ r.xs = r'.xs ∧ r.n ≤ 500000 ∧ ∀ x ∈ r.xs, ∃ q ∈ A, q.v = x ∧ q.T = T ∧ q.k = k ∧ ∃ ys : List α, ys.length ≤ 500000 ∧ q.n = ys.length ∧ q.xs = ys.flatMap enc
section
variable {α : Type} {T IL : TypeId} {k : Nat} {enc : α → List Value} {s : KS} {A A' : List Rw}
theorem FlOk.zero : FlOk T k enc KS.zero := ⟨rfl, by simp [KS.zero], fun i r r' h => by simp [KS.zero] at h⟩
theorem NeOk.zero : NeOk T IL k enc A KS.zero := ⟨rfl, by simp [KS.zero], fun i r r' h => by simp [KS.zero] at h⟩
theorem NeOk.mono (h : NeOk T IL k enc A s) (hs : ∀ r ∈ A, r ∈ A') : NeOk T IL k enc A' s :=
  ⟨h.hl, h.h4, fun i r r' h1 h2 => by
    obtain ⟨a, b, c, d, e, f, g, z⟩ := h.at_ i r r' h1 h2
    exact ⟨a, b, c, d, e, f, g, fun x hx => by obtain ⟨q, hq, y⟩ := z x hx; exact ⟨q, hs q hq, y⟩⟩⟩
theorem FlOk.ks_at (h : FlOk T k enc s) {r : Rw} (hr : r ∈ s.ks) : r.T = T ∧ r.k = k ∧ r.n ≤ 500000 := by
  obtain ⟨i, hi⟩ := List.getElem?_of_mem hr
  have hl := (List.getElem?_eq_some_iff.1 hi).1
  obtain ⟨r', hi'⟩ := getElem?_of_lt (xs := s.ws) (i := i) (by rw [← h.hl]; exact hl)
  obtain ⟨a, b, _, _, ys, c, d, _⟩ := h.at_ i r r' hi hi'
  exact ⟨a, b, by omega⟩
theorem NeOk.ks_at (h : NeOk T IL k enc A s) {r : Rw} (hr : r ∈ s.ks) : r.T = IL ∧ r.k = 1 ∧ r.n ≤ 500000 := by
  obtain ⟨i, hi⟩ := List.getElem?_of_mem hr
  have hl := (List.getElem?_eq_some_iff.1 hi).1
  obtain ⟨r', hi'⟩ := getElem?_of_lt (xs := s.ws) (i := i) (by rw [← h.hl]; exact hl)
  obtain ⟨a, b, _, _, _, _, c, _⟩ := h.at_ i r r' hi hi'
  exact ⟨a, b, c⟩
theorem FlOk.push (h : FlOk T k enc s) (hm : s.ks.length < 400) {o p : Value} {r r' : Rw} {ys : List α} (h1 : r.T = T) (h2 : r.k = k) (h3 : r'.T = T) (h4 : r'.k = k) (h5 : ys.length ≤ 500000) (h6 : r.n = ys.length) (h7 : r'.n = ys.length) (h8 : r.xs = ys.flatMap enc) (h9 : r'.xs = ys.flatMap enc) :
    FlOk T k enc ⟨o, p, s.ks ++ [r], s.ws ++ [r']⟩ := by
  have hll := h.hl
  refine ⟨by simp [hll], by simp; omega, fun i x x' hx hx' => ?_⟩
  by_cases hi : i < s.ks.length
  · rw [List.getElem?_append_left hi] at hx
    rw [List.getElem?_append_left (by omega)] at hx'
    exact h.at_ i x x' hx hx'
  · rw [List.getElem?_append_right (by omega)] at hx
    rw [List.getElem?_append_right (by omega)] at hx'
    have e : i - s.ks.length = 0 := by have := (List.getElem?_eq_some_iff.1 hx).1; simp at this; omega
    have e' : i - s.ws.length = 0 := by omega
    rw [e] at hx; rw [e'] at hx'
    simp at hx hx'
    subst hx hx'
    exact ⟨h1, h2, h3, h4, ys, h5, h6, h7, h8, h9⟩
theorem NeOk.push (h : NeOk T IL k enc A s) (hm : s.ks.length < 400) {o p : Value} {r r' : Rw} (h1 : r.T = IL) (h2 : r.k = 1) (h3 : r'.T = IL) (h4 : r'.k = 1) (h5 : r.n = r'.n) (h6 : r.xs = r'.xs) (h7 : r.n ≤ 500000)
    (h8 : ∀ x ∈ r.xs, ∃ q ∈ A, q.v = x ∧ q.T = T ∧ q.k = k ∧ ∃ ys : List α, ys.length ≤ 500000 ∧ q.n = ys.length ∧ q.xs = ys.flatMap enc) :
    NeOk T IL k enc A ⟨o, p, s.ks ++ [r], s.ws ++ [r']⟩ := by
  have hll := h.hl
  refine ⟨by simp [hll], by simp; omega, fun i x x' hx hx' => ?_⟩
  by_cases hi : i < s.ks.length
  · rw [List.getElem?_append_left hi] at hx
    rw [List.getElem?_append_left (by omega)] at hx'
    exact h.at_ i x x' hx hx'
  · rw [List.getElem?_append_right (by omega)] at hx
    rw [List.getElem?_append_right (by omega)] at hx'
    have e : i - s.ks.length = 0 := by have := (List.getElem?_eq_some_iff.1 hx).1; simp at this; omega
    have e' : i - s.ws.length = 0 := by omega
    rw [e] at hx; rw [e'] at hx'
    simp at hx hx'
    subst hx hx'
    exact ⟨h1, h2, h3, h4, h5, h6, h7, h8⟩
end

section
variable {w0 w : World} {kds : List Kd} {j bb : Nat} {D L : List Rw} {SL : TypeId} {K : KS}
/-- The rows of a kind ahead. -/
theorem Rws.bkFront (h : Rws w0 w (bkRows bb kds D)) (hj : kds[j]? = some (K.kd SL)) :
    Rws w0 w (bkBox bb kds :: ⟨SL, 1, K.o, K.ks.length, K.ks.map (·.v)⟩ :: (K.ks ++ (⟨SL, 1, K.p, K.ws.length, K.ws.map (·.v)⟩ :: (K.ws ++ bkX kds j D)))) := by
  refine (h.perm (bkRows_perm hj)).perm ?_
  unfold KS.kd Kd.rs
  simp only [List.length_map, List.cons_append, List.append_assoc]
  exact ((List.perm_middle (a := (⟨SL, 1, K.p, K.ws.length, K.ws.map (·.v)⟩ : Rw)) (l₁ := K.ks) (l₂ := K.ws ++ bkX kds j D)).symm.cons _).cons _
/-- .. and back, the lists turned. -/
theorem Rws.bkBack {K' : Kd} {G : List Rw} (hj : kds[j]? = some (K.kd SL)) (hK' : K' = ⟨SL, K.o, K.p, K.ks.map (·.v), K.ws.map (·.v), G ++ K.ws⟩)
    (h : Rws w0 w (bkBox bb kds :: ⟨SL, 1, K.o, K.ks.length, K.ks.map (·.v)⟩ :: (G ++ (⟨SL, 1, K.p, K.ws.length, K.ws.map (·.v)⟩ :: (K.ws ++ bkX kds j D))))) : Rws w0 w (bkRows bb (kds.set j K') D) := by
  refine h.perm (List.Perm.trans ?_ (bkRows_perm' (bb := bb) (D := D) (K' := K') hj).symm)
  rw [bkBox_set hj (by rw [hK']; rfl) (by rw [hK']; rfl), hK']
  unfold Kd.rs
  simp only [List.length_map, List.cons_append, List.append_assoc]
  exact ((List.perm_middle (a := (⟨SL, 1, K.p, K.ws.length, K.ws.map (·.v)⟩ : Rw)) (l₁ := G) (l₂ := K.ws ++ bkX kds j D)).cons _).cons _
theorem Rws.bkCell (h : Rws w0 w (bkRows bb kds D)) {X : Kd} (hj : kds[j]? = some X) : w.cell? ⟨bb, j * 2, none⟩ = some X.o ∧ w.cell? ⟨bb, j * 2 + 1, none⟩ = some X.p :=
  ⟨h.cell (i := 0) (T := 44) (k := 22) (n := 1) (xs := bkCells kds) rfl (bkCells_at hj).1, h.cell (i := 0) (T := 44) (k := 22) (n := 1) (xs := bkCells kds) rfl (bkCells_at hj).2⟩
theorem mem_bk {X : Kd} (hj : kds[j]? = some X) : (⟨X.T, 1, X.o, X.vs.length, X.vs⟩ : Rw) ∈ bkRows bb kds D ∧ (⟨X.T, 1, X.p, X.us.length, X.us⟩ : Rw) ∈ bkRows bb kds D ∧ ∀ r ∈ X.G, r ∈ bkRows bb kds D := by
  have hm := List.mem_of_getElem? hj
  have h0 : ∀ r ∈ X.rs, r ∈ bkRows bb kds D := fun r hr => List.mem_cons_of_mem _ (List.mem_append_left _ (List.mem_flatMap.2 ⟨X, hm, hr⟩))
  exact ⟨h0 _ List.mem_cons_self, h0 _ (List.mem_cons_of_mem _ List.mem_cons_self), fun r hr => h0 r (List.mem_cons_of_mem _ (List.mem_cons_of_mem _ hr))⟩
theorem Rws.bkMem (_ : Rws w0 w (bkRows bb kds D)) {X : Kd} (hj : kds[j]? = some X) : (⟨X.T, 1, X.o, X.vs.length, X.vs⟩ : Rw) ∈ bkRows bb kds D ∧ (⟨X.T, 1, X.p, X.us.length, X.us⟩ : Rw) ∈ bkRows bb kds D ∧ ∀ r ∈ X.G, r ∈ bkRows bb kds D := mem_bk hj
theorem Rws.bkD (_ : Rws w0 w (bkRows bb kds D)) {r : Rw} (hr : r ∈ D) : r ∈ bkRows bb kds D := List.mem_cons_of_mem _ (List.mem_append_right _ hr)
/-- A row of slices reads. -/
theorem Rws.outer (h : Rws w0 w L) {T : TypeId} {v : Value} {n : Nat} {vs : List Value} (hm : (⟨T, 1, v, n, vs⟩ : Rw) ∈ L) : ∃ a b c, v = .slice a n c ∧ SlAt encV 1 w a b 0 vs ∧ vs.length = n := by
  have ho := h.own _ hm
  have hl : vs.length = n := by have := ho.1; dsimp only at this; omega
  obtain ⟨a, c, b, h1, _, _, h2, _⟩ := slAt_own (enc := encV) (xs := vs) lenV (by rw [hl, flatV]; exact ho)
  exact ⟨a, b, c, by rw [hl] at h1; exact h1, h2, hl⟩
/-- A row of elements reads. -/
theorem Rws.reads {α : Type} {enc : α → List Value} {k : Nat} (hk : ∀ x, (enc x).length = k) (h : Rws w0 w L) {r : Rw} (hm : r ∈ L) {ys : List α} (h1 : r.k = k) (h2 : r.n = ys.length) (h3 : r.xs = ys.flatMap enc) : ∃ a b c, r.v = .slice a ys.length c ∧ SlAt enc k w a b 0 ys := by
  have ho := h.own _ hm
  rw [h1, h2, h3] at ho
  obtain ⟨a, c, b, e1, _, _, e2, _⟩ := slAt_own (xs := ys) hk ho
  exact ⟨a, b, c, e1, e2⟩
end
theorem grow_perm (g b o p : Rw) (G W : List Rw) (X : List Kd) (D : List Rw) : (g :: b :: o :: (G ++ (p :: (W ++ (X.flatMap Kd.rs ++ D))))).Perm (b :: o :: (G ++ (p :: (W ++ (X.flatMap Kd.rs ++ (g :: D)))))) := by
  have h := List.perm_middle (a := g) (l₁ := b :: o :: (G ++ (p :: (W ++ X.flatMap Kd.rs)))) (l₂ := D)
  simp only [List.append_assoc, List.cons_append] at h ⊢
  exact h.symm
theorem put_perm (b o p : Rw) (G W N : List Rw) (X : List Kd) (D : List Rw) : (b :: o :: (G ++ (N ++ (p :: (W ++ (X.flatMap Kd.rs ++ D)))))).Perm (b :: o :: (G ++ (p :: (W ++ (X.flatMap Kd.rs ++ (N ++ D)))))) := by
  refine ((List.Perm.append_left G ?_).cons _).cons _
  have h := perm_rot N (p :: (W ++ X.flatMap Kd.rs)) [] D
  simp only [List.append_assoc, List.cons_append, List.nil_append] at h
  exact h
theorem grow_permN (g b o p : Rw) (G W N : List Rw) (X : List Kd) (D : List Rw) : (g :: b :: o :: (G ++ (N ++ (p :: (W ++ (X.flatMap Kd.rs ++ D)))))).Perm (b :: o :: (G ++ (p :: (W ++ (X.flatMap Kd.rs ++ (g :: (N ++ D))))))) :=
  ((put_perm b o p G W N X D).cons g).trans (grow_perm g b o p G W X (N ++ D))
end Go.Proofs.YtkmljelgogcobaaGreatDoor
