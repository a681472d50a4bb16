/-
  tauscc.walk.from: what its rounds keep, and that each round keeps it.
-/
import Derived.Test.YtkmljelgogcobaaGreatDoorTauD
import Derived.Test.YtkmljelgogcobaaGreatDoorGPl3
namespace Go.Proofs.YtkmljelgogcobaaGreatDoor
open Go.RowKit Pl

/-- The stack of visits, the first state below. -/
def stkOf (K : List Nat) (nx : Nat → Nat) : List E := K.reverse.map (fun (z : Nat) => ((z : Int), (1 : Int), ((nx z : Nat) : Int)))
theorem stkOf_cons (x : Nat) (K : List Nat) (nx : Nat → Nat) : stkOf (x :: K) nx = stkOf K nx ++ [((x : Int), 1, ((nx x : Nat) : Int))] := by simp [stkOf]
theorem stkOf_congr {K : List Nat} {nx nx' : Nat → Nat} (h : ∀ z ∈ K, nx z = nx' z) : stkOf K nx = stkOf K nx' := by
  unfold stkOf
  apply List.map_congr_left
  intro z hz
  rw [h z (by simpa using hz)]
theorem stkOf_len (K : List Nat) (nx : Nat → Nat) : (stkOf K nx).length = K.length := by simp [stkOf]
theorem stkOf_nil (nx : Nat → Nat) : stkOf [] nx = [] := rfl

/-- Where the walk stands at the head of a round; the number: so many rounds are to come at most. -/
inductive FromSt (s : Lts) (n : Nat) (t : TS) : List E → Nat → Prop
  | done (nx : Nat → Nat) (k : Nat) : TI s n t [] nx → FromSt s n t [] k
  | seen (x : Nat) (K : List Nat) (nx : Nat → Nat) (k : Nat) : TI s n t (x :: K) nx → (∀ z ∈ x :: K, nx z ≤ (taus s z).length) → 3 * (n - t.met.toNat) + (K.length + 1) + 2 ≤ k → FromSt s n t (stkOf K nx ++ [((x : Int), 1, ((nx x : Nat) : Int))]) k
  | come (y : Nat) (K : List Nat) (nx nx' : Nat → Nat) (k : Nat) : TI s n t K nx → y < n → t.num y = 0 → (∀ g ∈ K, TR s g y) → (∀ x y', x ∈ K → y' ∈ (taus s x).take (nx' x) → y' = y ∨ y' ∈ (taus s x).take (nx x)) → (∀ z ∈ K, nx' z ≤ (taus s z).length) →
      3 * (n - t.met.toNat) + (K.length + 1) ≤ k → FromSt s n t (stkOf K nx' ++ [((y : Int), 0, 0)]) k

section
variable {s : Lts} {n : Nat} {t : TS} {K : List Nat} {nx nx' : Nat → Nat}

theorem Pl.TI.notin {x : Nat} (h : TI s n t (x :: K) nx) : x ∉ K := fun hh => by
  have := (List.pairwise_cons.1 h.gsrt).1 x hh; omega

theorem Pl.TI.opn_len (h : TI s n t K nx) : t.opn.length ≤ n := by
  have h1 : (t.opn.map Int.ofNat).Nodup := by
    unfold List.Nodup
    rw [List.pairwise_map]
    exact h.nd.imp (fun hab e => hab (Int.ofNat.inj e))
  have := nodup_len h1 (n := n) (fun x hx => by
    obtain ⟨i, hi, rfl⟩ := List.mem_map.1 hx
    have := h.opn_lt i hi
    show 0 ≤ (i : Int) ∧ (i : Int) < n; omega)
  simpa using this

/-- Deeper has found a state that was not met. -/
theorem FromSt.push {x y k : Nat} (h : TI s n t (x :: K) nx) (hr : s.Right) (hs : Srt ltE s.es) (hn : s.st = (n : Int)) (hy : (taus s x)[nx x]? = some y) (h0 : t.num y = 0) (hnx : ∀ z ∈ K, nx z ≤ (taus s z).length) (hk : 3 * (n - t.met.toNat) + (K.length + 2) ≤ k) :
    FromSt s n t (stkOf K nx ++ [((x : Int), 1, ((nx x + 1 : Nat) : Int))] ++ [((y : Int), 0, 0)]) k := by
  have hxK := h.notin
  have htx : tau s x y := (mem_taus hr hs).1 (List.mem_of_getElem? hy)
  have hlt := (List.getElem?_eq_some_iff.1 hy).1
  have e : stkOf K nx ++ [((x : Int), 1, ((nx x + 1 : Nat) : Int))] = stkOf (x :: K) (upd nx x (nx x + 1)) := by
    rw [stkOf_cons, upd_same, stkOf_congr (nx := upd nx x (nx x + 1)) (nx' := nx) (fun z hz => upd_other _ _ (fun e => hxK (e ▸ hz)))]
  rw [e]
  refine .come y (x :: K) nx _ k h (tau_lt hr hn htx).2 h0 (fun g hg => ?_) (fun x' y' hx' hy' => ?_) (fun z hz => ?_) (by simp; omega)
  · exact (h.tree g hg x (h.gin x List.mem_cons_self) (h.top g hg)).tail htx
  · by_cases e : x' = x
    · subst e
      rw [upd_same] at hy'
      obtain ⟨hl, hg⟩ := List.getElem?_eq_some_iff.1 hy
      rw [List.take_succ_eq_append_getElem hl, hg] at hy'
      rcases List.mem_append.1 hy' with h1 | h1
      · exact .inr h1
      · exact .inl (by simpa using h1)
    · rw [upd_other _ _ e] at hy'; exact .inr hy'
  · by_cases e : z = x
    · subst e; rw [upd_same]; omega
    · rw [upd_other _ _ e]
      rcases List.mem_cons.1 hz with h1 | h1
      · exact absurd h1 e
      · exact hnx z h1

theorem hall_of {x : Nat} (hr : s.Right) (hs : Srt ltE s.es) (he : nx x = (taus s x).length) : ∀ y, tau s x y → y ∈ (taus s x).take (nx x) := by
  intro y hy
  rw [he, List.take_length]
  exact (mem_taus hr hs).2 hy

/-- A state is left that is not the first of its cycle. -/
theorem FromSt.left1 {x g k : Nat} (h : TI s n t (x :: g :: K) nx) (hr : s.Right) (hs : Srt ltE s.es) (he : nx x = (taus s x).length) (hne : t.low x ≠ t.num x) (hnx : ∀ z ∈ g :: K, nx z ≤ (taus s z).length) (hk : 3 * (n - t.met.toNat) + (K.length + 1) + 2 ≤ k) :
    FromSt s n { t with low := upd t.low g (min (t.low g) (t.low x)) } (stkOf (g :: K) nx) k := by
  obtain ⟨g', K', e, h2⟩ := h.leave1 (hall_of hr hs he) hne
  simp only [List.cons.injEq] at e
  obtain ⟨rfl, rfl⟩ := e
  rw [stkOf_cons]
  exact .seen _ K nx k h2 hnx hk

/-- .. and the first of its cycle. -/
theorem FromSt.left2 {x k : Nat} (h : TI s n t (x :: K) nx) (hr : s.Right) (hs : Srt ltE s.es) (hn : s.st = (n : Int)) (he : nx x = (taus s x).length) (heq : t.low x = t.num x) {Pp Q : List Nat} (ho : t.opn = Pp ++ x :: Q) (hnx : ∀ z ∈ K, nx z ≤ (taus s z).length) (hk : 3 * (n - t.met.toNat) + K.length + 2 ≤ k) :
    FromSt s n { t with opn := Q, cls := fun i => if i ∈ Pp ++ [x] then t.found else t.cls i, found := t.found + 1 } (stkOf K nx) k ∧ (∀ g ∈ K, t.low g ≤ t.low x) := by
  obtain ⟨h2, h3⟩ := h.leave2 hr hn (hall_of hr hs he) heq ho
  refine ⟨?_, h3⟩
  cases K with
  | nil => exact .done nx k h2
  | cons g K' =>
    rw [stkOf_cons]
    exact .seen g K' nx k h2 hnx (by simp at hk ⊢; omega)

/-- The states that stand open, in memory. -/
theorem open_rev {x : Nat} {Pp Q : List Nat} (ho : t.opn = Pp ++ x :: Q) : t.opn.reverse.map Int.ofNat = Q.reverse.map Int.ofNat ++ [(x : Int)] ++ Pp.reverse.map Int.ofNat := by
  rw [ho]; simp
theorem mem_revI {l : List Nat} {i : Nat} : (i : Int) ∈ l.reverse.map Int.ofNat ↔ i ∈ l := by
  rw [List.mem_map]
  constructor
  · rintro ⟨j, hj, e⟩
    have : j = i := Int.ofNat.inj e
    subst this; simpa using hj
  · intro h; exact ⟨i, by simpa using h, rfl⟩
theorem cls_rev (x : Nat) (Pp : List Nat) (v : Int) (f : Nat → Int) : (fun (i : Nat) => if (i : Int) ∈ (x : Int) :: Pp.reverse.map Int.ofNat then v else f i) = fun i => if i ∈ Pp ++ [x] then v else f i := by
  funext i
  have : ((i : Int) ∈ (x : Int) :: Pp.reverse.map Int.ofNat) ↔ i ∈ Pp ++ [x] := by
    rw [List.mem_cons, mem_revI, List.mem_append, List.mem_singleton]
    constructor
    · rintro (h | h)
      · exact .inr (by omega)
      · exact .inl h
    · rintro (h | h)
      · exact .inr h
      · exact .inl (by omega)
  simp only [this]
theorem iso_rev {x : Nat} {Pp Q : List Nat} (hnd : t.opn.Nodup) (ho : t.opn = Pp ++ x :: Q) : (fun (i : Nat) => if (i : Int) ∈ (x : Int) :: Pp.reverse.map Int.ofNat then false else decide (i ∈ t.opn)) = fun (i : Nat) => decide (i ∈ Q) := by
  funext i
  rw [ho] at hnd ⊢
  have hd := List.nodup_append.1 hnd
  have hx := List.nodup_cons.1 hd.2.1
  have : ((i : Int) ∈ (x : Int) :: Pp.reverse.map Int.ofNat) ↔ i = x ∨ i ∈ Pp := by
    rw [List.mem_cons, mem_revI]
    constructor
    · rintro (h | h)
      · exact .inl (by omega)
      · exact .inr h
    · rintro (h | h)
      · exact .inl (by omega)
      · exact .inr h
  by_cases h1 : (i : Int) ∈ (x : Int) :: Pp.reverse.map Int.ofNat
  · rw [if_pos h1]
    have h2 : i ∉ Q := by
      rcases this.1 h1 with rfl | h3
      · exact hx.1
      · intro h4; exact hd.2.2 i h3 i (by simp [h4]) rfl
    simp [h2]
  · rw [if_neg h1]
    have h2 : ¬ (i = x ∨ i ∈ Pp) := fun h => h1 (this.2 h)
    have h3 : (i ∈ Pp ++ x :: Q) ↔ i ∈ Q := by
      simp only [List.mem_append, List.mem_cons]
      constructor
      · rintro (h | h | h)
        · exact absurd (.inr h) h2
        · exact absurd (.inl h) h2
        · exact h
      · intro h; exact .inr (.inr h)
    simp only [h3]
end
end Go.Proofs.YtkmljelgogcobaaGreatDoor
