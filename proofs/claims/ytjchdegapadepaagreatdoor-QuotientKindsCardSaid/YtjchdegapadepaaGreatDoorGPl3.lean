/-
  Lemmas.
-/
import Derived.Test.YtjchdegapadepaaGreatDoorGPl1
namespace Go.Proofs.YtjchdegapadepaaGreatDoor
namespace Pl
def ltI (a b : Int) : Bool := decide (a < b)
theorem x1k : STO ltI where
  irrefl a := by simp [ltI]
  trans a b c h1 h2 := by simp [ltI] at *; omega
  total a b := by simp [ltI]; omega
def Rch (s : Lts) (x : Int) : Prop := ∀ P : Int -> Prop, P s.s0 -> (∀ a l b, P a -> (a, l, b) ∈ s.es -> P b) -> P x
theorem Rch.start (s : Lts) : Rch s s.s0 := fun _ h _ => h
theorem Rch.step {s : Lts} {a l b : Int} (h : Rch s a) (he : (a, l, b) ∈ s.es) : Rch s b := fun P h0 h1 => h1 a l b (h P h0 h1) he
theorem q1c {L : List Int} {n : Nat} (h : L.Nodup) (hr : ∀ x ∈ L, 0 <= x /\ x < (n : Int)) : L.length <= n := by
 have : L ⊆ (List.range n).map Int.ofNat := by (
 intro x hx
 have := hr x hx
 rw [List.mem_map]
 exact ⟨x.toNat, by rw [List.mem_range]; omega, by simp; omega⟩)
 have := List.Nodup.length_le_of_subset h this
 simpa using this
structure Bfs (s : Lts) (L : List Int) (i : Nat) : Prop where
  nd : L.Nodup
  rng : ∀ x ∈ L, 0 <= x /\ x < s.st
  rch : ∀ x ∈ L, Rch s x
  s0 : s.s0 ∈ L
  done : ∀ k x, k < i -> L[k]? = some x -> ∀ y ∈ s.outs x, y.2 ∈ L
theorem Bfs.start {s : Lts} (h : s.Right) (h0 : s.st ≠ 0) : Bfs s [s.s0] 0 where
  nd := by simp
  rng x hx := by have := h.st0; simp at hx; subst hx; omega
  rch x hx := by simp at hx; subst hx; exact Rch.start s
  s0 := by simp
  done k x hk := by omega
theorem Bfs.len {s : Lts} {L : List Int} {i : Nat} (h : Bfs s L i) : L.length <= s.st.toNat :=
  q1c h.nd (fun x hx => by have := h.rng x hx; omega)
theorem Bfs.push {s : Lts} (hr : s.Right) {L : List Int} {i : Nat} {x : Int} {y : S} (h : Bfs s L i) (hx : L[i]? = some x) (hy : y ∈ s.outs x) (hn : y.2 ∉ L) : Bfs s (L ++ [y.2]) i where
  nd := by rw [List.nodup_append]; exact ⟨h.nd, by simp, by intro a ha b hb; simp at hb; subst hb; intro e; subst e; exact hn ha⟩
  rng z hz := by
    rcases List.mem_append.1 hz with h1 | h1
    · exact h.rng z h1
    · simp at h1; subst h1
      have := j0e.1 (hr.edges _ (j0j.1 hy))
      exact ⟨this.2.2.2.2.1, this.2.2.2.2.2⟩
  rch z hz := by
    rcases List.mem_append.1 hz with h1 | h1
    · exact h.rch z h1
    · simp at h1; subst h1; exact (h.rch x (List.mem_of_getElem? hx)).step (j0j.1 hy)
  s0 := List.mem_append_left _ h.s0
  done k z hk hz w hw := by
    have hlt : k < L.length := by have := (List.getElem?_eq_some_iff.1 hx).1; omega
    rw [List.getElem?_append_left hlt] at hz
    exact List.mem_append_left _ (h.done k z hk hz w hw)
theorem Bfs.next {s : Lts} {L : List Int} {i : Nat} {x : Int} (h : Bfs s L i) (hx : L[i]? = some x) (ha : ∀ y ∈ s.outs x, y.2 ∈ L) : Bfs s L (i + 1) where
  nd := h.nd
  rng := h.rng
  rch := h.rch
  s0 := h.s0
  done k z hk hz := by
    by_cases hki : k = i
    · subst hki; rw [hx] at hz; simp at hz; subst hz; exact ha
    · exact h.done k z (by omega) hz
theorem Bfs.all {s : Lts} {L : List Int} (h : Bfs s L L.length) (x : Int) : x ∈ L ↔ Rch s x := by
 refine ⟨h.rch x, fun hr => hr (· ∈ L) h.s0 ?_⟩
 intro a l b ha he
 obtain ⟨k, hk, rfl⟩ := List.getElem_of_mem ha
 exact h.done k _ hk (List.getElem?_eq_getElem hk) (l, b) (j0j.2 he)
open Classical in
noncomputable def reachL (s : Lts) : List Int := ((List.range s.st.toNat).map Int.ofNat).filter (fun x => decide (Rch s x))
theorem Rch.rng {s : Lts} (h : s.Right) (h0 : s.st ≠ 0) {x : Int} (hx : Rch s x) : 0 <= x /\ x < s.st := by
 have := h.st0
 refine hx (fun x => 0 <= x /\ x < s.st) (by omega) ?_
 intro a l b _ he
 have := j0e.1 (h.edges _ he)
 exact ⟨this.2.2.2.2.1, this.2.2.2.2.2⟩
theorem k0p {s : Lts} (h : s.Right) (h0 : s.st ≠ 0) {x : Int} : x ∈ reachL s ↔ Rch s x := by
 unfold reachL
 simp only [List.mem_filter, List.mem_map, List.mem_range, decide_eq_true_eq]
 constructor
 · rintro ⟨_, h⟩; exact h
 · intro hx
   have := hx.rng h h0
   exact ⟨⟨x.toNat, by omega, by simp; omega⟩, hx⟩
theorem v1x (s : Lts) : Srt ltI (reachL s) := by
 classical
 refine List.Pairwise.filter _ ?_
 rw [List.pairwise_map]
 refine List.pairwise_lt_range.imp (fun {a b} h => ?_)
 simp [ltI]; omega
theorem v1y {s : Lts} (h0 : s.st = 0) : reachL s = [] := by unfold reachL; rw [h0]; rfl
theorem reach_of {s : Lts} (h : s.Right) (h0 : s.st ≠ 0) {L : List Int} (hb : Bfs s L L.length) : L.mergeSort (fun x y => decide (x <= y)) = reachL s := by
 have hp := List.mergeSort_perm L (fun x y => decide (x <= y))
 refine x0b x1k _ _ ?_ (v1x s) (fun x => ?_)
 · have hs := List.pairwise_mergeSort (le := fun (x y : Int) => decide (x <= y)) (fun a b c h1 h2 => by simp at *; omega) (fun a b => by simp; omega) L
   have hnd := hp.nodup_iff.2 hb.nd
   exact List.Pairwise.imp₂ (fun a b h1 h2 => by simp [ltI] at *; omega) hs hnd
 · rw [hp.mem_iff, hb.all, k0p h h0]
theorem v1z {s : Lts} : (reachL s).length <= s.st.toNat := by
 unfold reachL
 refine Nat.le_trans (List.length_filter_le _ _) (by simp)
end Pl
end Go.Proofs.YtjchdegapadepaaGreatDoor
namespace Go.Proofs.YtjchdegapadepaaGreatDoor
namespace Pl
def addN (s : List Int) (x : Int) : List Int := if x ∈ s then s else s ++ [x]
def dist (l : List Int) : List Int := l.foldl addN []
theorem j0i (l : List Int) (x : Int) : dist (l ++ [x]) = addN (dist l) x := by simp [dist, List.foldl_append]
theorem z1s {s : List Int} {x y : Int} : y ∈ addN s x ↔ y ∈ s ∨ y = x := by
 unfold addN; split
 · constructor
   · exact Or.inl
   · rintro (h | rfl)
     · exact h
     · assumption
 · simp
theorem z0l {P : List Int -> Prop} (h0 : P []) (h1 : ∀ l x, P l -> P (l ++ [x])) (l : List Int) : P l := by
 have : ∀ m : List Int, P m.reverse := by (
 intro m
 induction m with
 | nil => exact h0
 | cons x m ih => rw [List.reverse_cons]; exact h1 _ _ ih)
 simpa using this l.reverse
theorem k0g {x : Int} (l : List Int) : x ∈ dist l ↔ x ∈ l := by
 induction l using z0l with
 | h0 => simp [dist]
 | h1 l y ih => rw [j0i, z1s, ih]; simp
theorem p0h (l : List Int) : (dist l).Nodup := by
 induction l using z0l with
 | h0 => simp [dist]
 | h1 l y ih => (
 rw [j0i]; unfold addN; split
 · exact ih
 · rw [List.nodup_append]; exact ⟨ih, by simp, by intro a ha b hb e; simp at hb; subst hb; subst e; contradiction⟩)
theorem k0h (l : List Int) : (dist l).length <= l.length := by
 induction l using z0l with
 | h0 => simp [dist]
 | h1 l y ih => rw [j0i]; unfold addN; split <;> simp <;> omega
theorem z1v {s : List Int} {x y : Int} (h : y ∈ s) : (addN s x).idxOf y = s.idxOf y := by
 unfold addN; split
 · rfl
 · rw [List.idxOf_append]; simp [h]
theorem idx_new {s : List Int} {x : Int} (h : x ∉ s) : (addN s x).idxOf x = s.length := by
 unfold addN; rw [if_neg h, List.idxOf_append]; simp [h]
theorem u0s (l m : List Int) {y : Int} (h : y ∈ l) : (dist (l ++ m)).idxOf y = (dist l).idxOf y := by
 induction m using z0l with
 | h0 => simp
 | h1 m x ih => rw [<- List.append_assoc, j0i, z1v ((k0g _).2 (by simp [h])), ih]
def canon (l : List Int) : List Int := l.map (fun x => ((dist l).idxOf x : Int))
theorem k0l (l : List Int) : (canon l).length = l.length := by simp [canon]
theorem x0q (l : List Int) (i : Nat) : (canon l)[i]? = l[i]?.map (fun x => ((dist l).idxOf x : Int)) := by simp [canon]
theorem k1g {l : List Int} {x y : Int} (hx : x ∈ l) (hy : y ∈ l) (h : l.idxOf x = l.idxOf y) : x = y := by
 have h1 := List.getElem_idxOf (List.idxOf_lt_length_of_mem hx)
 have h2 := List.getElem_idxOf (List.idxOf_lt_length_of_mem hy)
 rw [<- h1, <- h2]
 congr 1
theorem addN_map {f : Int -> Int} {s : List Int} {x : Int} (hf : ∀ y ∈ s, f y = f x -> y = x) : addN (s.map f) (f x) = (addN s x).map f := by
 unfold addN
 by_cases h : x ∈ s
 · rw [if_pos h, if_pos (List.mem_map_of_mem h)]
 · rw [if_neg h, if_neg]
   · simp
   · intro hm; obtain ⟨y, hy, e⟩ := List.mem_map.1 hm; exact h (hf y hy e ▸ hy)
theorem v1c {f : Int -> Int} (l : List Int) (hf : ∀ x ∈ l, ∀ y ∈ l, f x = f y -> x = y) : dist (l.map f) = (dist l).map f := by
 induction l using z0l with
 | h0 => simp [dist]
 | h1 l y ih =>
   rw [List.map_append, List.map_cons, List.map_nil, j0i, ih (fun a ha b hb => hf a (by simp [ha]) b (by simp [hb])), j0i]
   exact addN_map (fun z hz => hf z (by simp [(k0g l).1 hz]) y (by simp))
theorem q2k {f : Int -> Int} {x : Int} : ∀ l : List Int, (∀ y ∈ l, f y = f x -> y = x) -> (l.map f).idxOf (f x) = l.idxOf x
  | [], _ => rfl
  | y :: l, h => by
    have ih := q2k l (fun z hz => h z (by simp [hz]))
    rw [List.map_cons, List.idxOf_cons, List.idxOf_cons]
    by_cases e : y = x
    · subst e; simp
    · have : ¬ f y = f x := fun e2 => e (h y (by simp) e2)
      simp only [beq_iff_eq, e, this, if_false, ih, cond_eq_ite]
theorem v0m {f : Int -> Int} {l : List Int} (hf : ∀ x ∈ l, ∀ y ∈ l, f x = f y -> x = y) : canon (l.map f) = canon l := by
 unfold canon
 rw [List.map_map, v1c l hf]
 apply List.map_congr_left
 intro x hx
 simp only [Function.comp]
 rw [q2k _ (fun y hy => hf y ((k0g l).1 hy) x hx)]
theorem k0t (l : List Int) : canon (canon l) = canon l := by
 conv => lhs; arg 1; unfold canon
 exact v0m (fun x hx y hy h => k1g ((k0g l).2 hx) ((k0g l).2 hy) (Int.ofNat.inj h))
theorem q0p {l : List Int} {i k : Nat} {x y : Int} (hx : l[i]? = some x) (hy : l[k]? = some y) : ((dist l).idxOf x : Int) = ((dist l).idxOf y : Int) ↔ x = y := by
 constructor
 · intro h; exact k1g ((k0g l).2 (List.mem_of_getElem? hx)) ((k0g l).2 (List.mem_of_getElem? hy)) (Int.ofNat.inj h)
 · rintro rfl; rfl
def SameT (a b : List Int) : Prop := ∀ (i k : Nat) (x y x' y' : Int), k < i -> a[i]? = some x -> a[k]? = some y -> b[i]? = some x' -> b[k]? = some y' -> (x = y ↔ x' = y')
theorem p0x {a b : List Int} (hl : a.length = b.length) : canon a = canon b ↔ SameT a b := by
 constructor
 · intro h i k x y x' y' _ hx hy hx' hy'
   have e1 := congrArg (fun l => l[i]?) h
   have e2 := congrArg (fun l => l[k]?) h
   simp only [x0q, hx, hy, hx', hy', Option.map_some, Option.some.injEq] at e1 e2
   rw [<- q0p hx hy, <- q0p hx' hy', e1, e2]
 · (
 intro h
 have hs : ∀ (i k : Nat) (x y x' y' : Int), a[i]? = some x -> a[k]? = some y -> b[i]? = some x' -> b[k]? = some y' -> (x = y ↔ x' = y') := by (
 intro i k x y x' y' hx hy hx' hy'
 rcases Nat.lt_trichotomy k i with hlt | rfl | hlt
 · exact h i k x y x' y' hlt hx hy hx' hy'
 · rw [hx] at hy; rw [hx'] at hy'; simp at hy hy'; simp [hy, hy']
 · have := h k i y x y' x' hlt hy hx hy' hx'
   rw [eq_comm, this, eq_comm])
 have hb : b = a.map (fun x => b.getD (a.idxOf x) 0) := by (
 apply List.ext_getElem?
 intro i
 by_cases hi : i < a.length
 · (
 have hx := List.getElem?_eq_getElem hi
 have hx' := List.getElem?_eq_getElem (show i < b.length by omega)
 have hm : a[i] ∈ a := List.getElem_mem hi
 have hlt := List.idxOf_lt_length_of_mem hm
 have hj : a[a.idxOf a[i]]? = some a[i] := by rw [List.getElem?_eq_getElem hlt, List.getElem_idxOf hlt]
 have hj' := List.getElem?_eq_getElem (show a.idxOf a[i] < b.length by omega)
 rw [List.getElem?_map, hx, hx']
 simp only [Option.map_some, Option.some.injEq]
 rw [List.getD_eq_getElem?_getD, hj']
 simpa using (hs i _ _ _ _ _ hx hj hx' hj').1 rfl)
 · rw [List.getElem?_eq_none (by omega), List.getElem?_eq_none (by simp; omega)])
 rw [hb]
 refine (v0m ?_).symm
 intro x hx y hy he
 obtain ⟨i, hi, rfl⟩ := List.getElem_of_mem hx
 obtain ⟨k, hk, rfl⟩ := List.getElem_of_mem hy
 have hm1 := List.idxOf_lt_length_of_mem hx
 have hm2 := List.idxOf_lt_length_of_mem hy
 have hj1 : a[a.idxOf a[i]]? = some a[i] := by rw [List.getElem?_eq_getElem hm1, List.getElem_idxOf hm1]
 have hj2 : a[a.idxOf a[k]]? = some a[k] := by rw [List.getElem?_eq_getElem hm2, List.getElem_idxOf hm2]
 rw [List.getD_eq_getElem?_getD, List.getD_eq_getElem?_getD, List.getElem?_eq_getElem (show a.idxOf a[i] < b.length by omega), List.getElem?_eq_getElem (show a.idxOf a[k] < b.length by omega)] at he
 exact (hs _ _ _ _ _ _ hj1 hj2 (List.getElem?_eq_getElem (by omega)) (List.getElem?_eq_getElem (by omega))).2 (by simpa using he))
end Pl
end Go.Proofs.YtjchdegapadepaaGreatDoor
namespace Go.Proofs.YtjchdegapadepaaGreatDoor
namespace Pl
def cnt (L : List Int) (k : Int) : Nat := (L.filter (fun x => decide (x < k))).length
theorem k1h : ∀ {L : List Int}, L.Nodup -> ∀ {i : Nat} {x : Int}, L[i]? = some x -> L.idxOf x = i
  | [], _, i, x, h => by simp at h
  | y :: L, hn, 0, x, h => by simp at h; subst h; simp
  | y :: L, hn, i + 1, x, h => by
    have hy := List.nodup_cons.1 hn
    have hx : L[i]? = some x := by simpa using h
    have hb : (y == x) = false := by
      simp; rintro rfl; exact hy.1 (List.mem_of_getElem? hx)
    rw [List.idxOf_cons, hb, k1h hy.2 hx]; rfl
noncomputable def toOf (s : Lts) (x : Int) : Int := if x ∈ reachL s then ((reachL s).idxOf x : Int) else -1
noncomputable def toL (s : Lts) : List Int := (List.range s.st.toNat).map (fun (i : Nat) => toOf s (i : Int))
noncomputable def cutE (s : Lts) : List E := (s.es.filter (fun x => decide (0 <= toOf s x.1))).map (fun x => (toOf s x.1, x.2.1, toOf s x.2.2))
noncomputable def cut (s : Lts) : Lts := ⟨(reachL s).length, s.lb, if (reachL s).length = 0 then 0 else toOf s s.s0, cutE s⟩
end Pl
end Go.Proofs.YtjchdegapadepaaGreatDoor
namespace Go.Proofs.YtjchdegapadepaaGreatDoor
namespace Pl
structure Cyc (s : Lts) (n : Nat) (f : Nat -> Int) : Prop where
  same : ∀ x y, x < n -> y < n -> (f x = f y ↔ TR s x y /\ TR s y x)
  down : ∀ x y, tau s x y -> f y <= f x
theorem TI.done {s : Lts} {n : Nat} {t : TS} {nx : Nat -> Nat} (h : TI s n t [] nx) : t.opn = [] := by
 rcases List.eq_nil_or_concat t.opn with h1 | ⟨l, x, h1⟩
 · exact h1
 · obtain ⟨g, hg, _⟩ := h.back x (by rw [h1]; simp)
   simp at hg
theorem TI.cyc {s : Lts} {n : Nat} {t : TS} {nx : Nat -> Nat} (h : TI s n t [] nx) (hr : s.Right) (hn : s.st = (n : Int)) (hall : ∀ x, x < n -> t.num x ≠ 0) : Cyc s n t.cls := by
 have ho := h.done
 have hc : ∀ x, x < n -> t.clo x := fun x hx => ⟨hall x hx, by rw [ho]; simp⟩
 exact ⟨fun x y hx hy => h.scc x y hx hy (hc x hx) (hc y hy), fun x y hxy => (h.clos x (y0k hr hn hxy).1 (hc x (y0k hr hn hxy).1) y hxy).2⟩
def fl (n : Nat) (f : Nat -> Int) : List Int := (List.range n).map f
theorem j0g (n : Nat) (f : Nat -> Int) : (fl n f).length = n := by simp [fl]
theorem j0h {n : Nat} (f : Nat -> Int) {i : Nat} (h : i < n) : (fl n f)[i]? = some (f i) := by simp [fl, h]
theorem Cyc.unique {s : Lts} {n : Nat} {f g : Nat -> Int} (hf : Cyc s n f) (hg : Cyc s n g) : canon (fl n f) = canon (fl n g) := by
 rw [p0x (by rw [j0g, j0g])]
 intro i k x y x' y' hki hx hy hx' hy'
 have hi : i < n := by have := (List.getElem?_eq_some_iff.1 hx).1; rwa [j0g] at this
 have hk : k < n := by omega
 rw [j0h f hi] at hx; rw [j0h f hk] at hy; rw [j0h g hi] at hx'; rw [j0h g hk] at hy'
 cases hx; cases hy; cases hx'; cases hy'
 rw [hf.same i k hi hk, hg.same i k hi hk]
def clf (n : Nat) (f : Nat -> Int) (x : Nat) : Int := ((dist (fl n f)).idxOf (f x) : Int)
theorem j0u (n : Nat) (f : Nat -> Int) : canon (fl n f) = fl n (clf n f) := by
 unfold canon fl clf
 rw [List.map_map]; rfl
theorem v0k {n : Nat} {f : Nat -> Int} {x y : Nat} (hx : x < n) (hy : y < n) : clf n f x = clf n f y ↔ f x = f y :=
  q0p (j0h f hx) (j0h f hy)
theorem p0q {n : Nat} {f : Nat -> Int} {x : Nat} (hx : x < n) : 0 <= clf n f x /\ clf n f x < (dist (fl n f)).length := by
 have : f x ∈ dist (fl n f) := (k0g _).2 (List.mem_of_getElem? (j0h f hx))
 have := List.idxOf_lt_length_of_mem this
 unfold clf; omega
theorem p0u : ∀ m : Nat, dist ((List.range m).map Int.ofNat) = (List.range m).map Int.ofNat
  | 0 => rfl
  | m + 1 => by
    rw [List.range_succ, List.map_append, List.map_cons, List.map_nil, j0i, p0u m]
    unfold addN
    rw [if_neg (by simp; omega)]
theorem q2j {m i : Nat} (h : i < m) : ((List.range m).map Int.ofNat).idxOf (i : Int) = i := by
 have hn : ((List.range m).map Int.ofNat).Nodup := by rw [<- p0u]; exact p0h _
 have hg : ((List.range m).map Int.ofNat)[i]? = some (i : Int) := by simp [h]
 exact k1h hn hg
theorem y1r (m : Nat) : canon ((List.range m).map Int.ofNat) = (List.range m).map Int.ofNat := by
 unfold canon
 rw [p0u]
 apply List.ext_getElem?
 intro i
 by_cases h : i < m
 · have hg : ((List.range m).map Int.ofNat)[i]? = some (i : Int) := by simp [h]
   rw [List.getElem?_map, hg]
   show some ((((List.range m).map Int.ofNat).idxOf (i : Int) : Nat) : Int) = _
   rw [q2j h]
 · rw [List.getElem?_eq_none (by simp; omega), List.getElem?_eq_none (by simp; omega)]
theorem x2i {m : Nat} {f : Nat -> Int} (h : ∀ x y, x < m -> y < m -> f x = f y -> x = y) : canon (fl m f) = (List.range m).map Int.ofNat := by
 have h1 : fl m f = ((List.range m).map Int.ofNat).map (fun z => f z.toNat) := by
   unfold fl; rw [List.map_map]; rfl
 rw [h1, v0m, y1r]
 intro x hx y hy hxy
 obtain ⟨i, hi, rfl⟩ := List.mem_map.1 hx
 obtain ⟨j, hj, rfl⟩ := List.mem_map.1 hy
 rw [List.mem_range] at hi hj
 have := h i j hi hj (by simpa using hxy)
 rw [this]
theorem j2d (l : List Int) : dist (canon l) = (List.range (dist l).length).map Int.ofNat := by
 have hinj : ∀ x ∈ l, ∀ y ∈ l, ((dist l).idxOf x : Int) = ((dist l).idxOf y : Int) -> x = y := by
   intro x hx y hy he
   exact k1g ((k0g l).2 hx) ((k0g l).2 hy) (by omega)
 unfold canon
 rw [v1c (f := fun x => ((dist l).idxOf x : Int)) l hinj]
 apply List.ext_getElem?
 intro i
 by_cases h : i < (dist l).length
 · have hg : (dist l)[i]? = some (dist l)[i] := List.getElem?_eq_getElem h
   rw [List.getElem?_map, hg]
   simp [k1h (p0h l) hg, h]
 · rw [List.getElem?_eq_none (by simp; omega), List.getElem?_eq_none (by simp; omega)]
theorem clf_onto {n : Nat} {f : Nat -> Int} {k : Nat} (h : k < (dist (fl n f)).length) : ∃ x, x < n /\ clf n f x = (k : Int) := by
 have hg : (dist (fl n f))[k]? = some (dist (fl n f))[k] := List.getElem?_eq_getElem h
 have hm : (dist (fl n f))[k] ∈ dist (fl n f) := List.getElem_mem h
 have hm2 := (k0g _).1 hm
 obtain ⟨x, hx, he⟩ := List.mem_map.1 (show (dist (fl n f))[k] ∈ (List.range n).map f from hm2)
 rw [List.mem_range] at hx
 refine ⟨x, hx, ?_⟩
 unfold clf
 rw [he]
 rw [k1h (p0h _) hg]
end Pl
end Go.Proofs.YtjchdegapadepaaGreatDoor
namespace Go.Proofs.YtjchdegapadepaaGreatDoor
namespace Pl
def stp (s : Lts) (p : Nat) (l : Int) (t : Nat) : Prop := ((p : Int), l, (t : Int)) ∈ s.es
def intoX (s : Lts) (n : Nat) (l : Int) (X : Nat -> Prop) (p : Nat) : Prop := ∃ t, t < n /\ X t /\ stp s p l t
def IsBis (s : Lts) (n : Nat) (R : Nat -> Nat -> Prop) : Prop := ∀ p q, p < n -> q < n -> R p q ->
  (∀ l t, t < n -> stp s p l t -> ∃ u, u < n /\ stp s q l u /\ R t u) /\ (∀ l u, u < n -> stp s q l u -> ∃ t, t < n /\ stp s p l t /\ R t u)
structure Big (s : Lts) (n : Nat) (C : Nat -> Int) : Prop where
  bis : IsBis s n (fun p q => C p = C q)
  all : ∀ R, IsBis s n R -> ∀ p q, p < n -> q < n -> R p q -> C p = C q
section
variable {s : Lts} {n : Nat}
theorem Big.same {C D : Nat -> Int} (h : Big s n C) (h' : Big s n D) {p q : Nat} (hp : p < n) (hq : q < n) : C p = C q ↔ D p = D q :=
  ⟨fun e => h'.all _ h.bis p q hp hq e, fun e => h.all _ h'.bis p q hp hq e⟩
theorem j2c {C D : Nat -> Int} (h : ∀ p q, p < n -> q < n -> (C p = C q ↔ D p = D q)) : canon (fl n C) = canon (fl n D) := by
 rw [p0x (by rw [j0g, j0g])]
 intro i k x y x' y' hki hx hy hx' hy'
 have hi : i < n := by have := (List.getElem?_eq_some_iff.1 hx).1; rwa [j0g] at this
 have hk : k < n := by omega
 rw [j0h C hi] at hx; rw [j0h C hk] at hy; rw [j0h D hi] at hx'; rw [j0h D hk] at hy'
 cases hx; cases hy; cases hx'; cases hy'
 exact h i k hi hk
theorem Big.uniq {C D : Nat -> Int} (h : Big s n C) (h' : Big s n D) : canon (fl n C) = canon (fl n D) := j2c (fun _ _ hp hq => h.same h' hp hq)
theorem Big.congr {C D : Nat -> Int} (h : Big s n C) (e : ∀ p q, p < n -> q < n -> (C p = C q ↔ D p = D q)) : Big s n D where
  bis p q hp hq hpq := by
    obtain ⟨h1, h2⟩ := h.bis p q hp hq ((e p q hp hq).2 hpq)
    refine ⟨fun l t ht hs => ?_, fun l u hu hs => ?_⟩
    · obtain ⟨u, hu, h3, h4⟩ := h1 l t ht hs
      exact ⟨u, hu, h3, (e t u ht hu).1 h4⟩
    · obtain ⟨t, ht, h3, h4⟩ := h2 l u hu hs
      exact ⟨t, ht, h3, (e t u ht hu).1 h4⟩
  all R hR p q hp hq h1 := (e p q hp hq).1 (h.all R hR p q hp hq h1)
theorem Big.clf {C : Nat -> Int} (h : Big s n C) : Big s n (clf n C) := h.congr (fun _ _ hp hq => (v0k hp hq).symm)
theorem Big.steps {s' : Lts} {C : Nat -> Int} (h : Big s n C) (e : ∀ p l t, p < n -> t < n -> (stp s p l t ↔ stp s' p l t)) : Big s' n C where
  bis p q hp hq hpq := by
    obtain ⟨h1, h2⟩ := h.bis p q hp hq hpq
    refine ⟨fun l t ht hs => ?_, fun l u hu hs => ?_⟩
    · obtain ⟨u, hu, h3, h4⟩ := h1 l t ht ((e p l t hp ht).2 hs)
      exact ⟨u, hu, (e q l u hq hu).1 h3, h4⟩
    · obtain ⟨t, ht, h3, h4⟩ := h2 l u hu ((e q l u hq hu).2 hs)
      exact ⟨t, ht, (e p l t hp ht).1 h3, h4⟩
  all R hR p q hp hq h1 := by
    refine h.all R (fun p q hp hq hpq => ?_) p q hp hq h1
    obtain ⟨h1, h2⟩ := hR p q hp hq hpq
    refine ⟨fun l t ht hs => ?_, fun l u hu hs => ?_⟩
    · obtain ⟨u, hu, h3, h4⟩ := h1 l t ht ((e p l t hp ht).1 hs)
      exact ⟨u, hu, (e q l u hq hu).2 h3, h4⟩
    · obtain ⟨t, ht, h3, h4⟩ := h2 l u hu ((e q l u hq hu).1 hs)
      exact ⟨t, ht, (e p l t hp ht).2 h3, h4⟩
def SplitBy (s : Lts) (n : Nat) (X : Nat -> Prop) (inn inn' : Nat -> Nat) : Prop :=
  ∀ p q, p < n -> q < n -> (inn' p = inn' q ↔ inn p = inn q /\ ∀ l, (intoX s n l X p ↔ intoX s n l X q))
structure Run (s : Lts) (n : Nat) (inn hp : Nat -> Nat) (H : Nat) : Prop where
  sub : ∀ p q, p < n -> q < n -> inn p = inn q -> hp p = hp q
  stab : ∀ p q, p < n -> q < n -> inn p = inn q -> ∀ l h, (intoX s n l (fun t => hp t = h) p ↔ intoX s n l (fun t => hp t = h) q)
  all : ∀ R, IsBis s n R -> ∀ p q, p < n -> q < n -> R p q -> inn p = inn q
  rng : ∀ p, p < n -> hp p < H
theorem k1q {R : Nat -> Nat -> Prop} (hR : IsBis s n R) {X : Nat -> Prop} (hX : ∀ t u, t < n -> u < n -> R t u -> (X t ↔ X u)) {p q : Nat} (hp : p < n) (hq : q < n) (h : R p q) (l : Int) : intoX s n l X p ↔ intoX s n l X q := by
 obtain ⟨h1, h2⟩ := hR p q hp hq h
 constructor
 · rintro ⟨t, ht, hx, hs⟩
   obtain ⟨u, hu, h3, h4⟩ := h1 l t ht hs
   exact ⟨u, hu, (hX t u ht hu h4).1 hx, h3⟩
 · rintro ⟨u, hu, hx, hs⟩
   obtain ⟨t, ht, h3, h4⟩ := h2 l u hu hs
   exact ⟨t, ht, (hX t u ht hu h4).2 hx, h3⟩
theorem Run.begin {inn inn' : Nat -> Nat} (h0 : ∀ p q, p < n -> q < n -> inn p = inn q) (h : SplitBy s n (fun _ => True) inn inn') : Run s n inn' (fun _ => 0) 1 where
  sub _ _ _ _ _ := rfl
  stab p q hp hq e l k := by
    have h1 := ((h p q hp hq).1 e).2 l
    by_cases hk : k = 0
    · subst hk; simpa [intoX] using h1
    · have : ¬ (0 = k) := fun e => hk e.symm
      simp [intoX, this]
  all R hR p q hp hq hpq := (h p q hp hq).2 ⟨h0 p q hp hq, fun l => k1q hR (fun _ _ _ _ _ => Iff.rfl) hp hq hpq l⟩
  rng _ _ := by omega
theorem Run.take {inn hp inn1 inn2 : Nat -> Nat} {H b h : Nat} (hr : Run s n inn hp H) (hb : ∀ p, p < n -> inn p = b -> hp p = h) (h1 : SplitBy s n (fun t => inn t = b) inn inn1) (h2 : SplitBy s n (fun t => hp t = h /\ inn t ≠ b) inn1 inn2) :
    Run s n inn2 (fun p => if inn p = b then H else hp p) (H + 1) where
  sub p q hpn hqn e := by
    have e1 := ((h1 p q hpn hqn).1 ((h2 p q hpn hqn).1 e).1).1
    simp only [e1, hr.sub p q hpn hqn e1]
  stab p q hpn hqn e l k := by
    have a2 := (h2 p q hpn hqn).1 e
    have a1 := (h1 p q hpn hqn).1 a2.1
    have c1 := a1.2 l
    have c2 := a2.2 l
    have c0 := hr.stab p q hpn hqn a1.1 l k
    have key : ∀ p, intoX s n l (fun t => (if inn t = b then H else hp t) = k) p ↔ (if k = H then intoX s n l (fun t => inn t = b) p else if k = h then intoX s n l (fun t => hp t = h /\ inn t ≠ b) p else intoX s n l (fun t => hp t = k) p) := by
      intro p
      unfold intoX
      constructor
      · rintro ⟨t, ht, hx, hs⟩
        have hx : (if inn t = b then H else hp t) = k := hx
        have hlt := hr.rng t ht
        by_cases e : inn t = b
        · rw [if_pos e] at hx; rw [if_pos hx.symm]; exact ⟨t, ht, e, hs⟩
        · rw [if_neg e] at hx
          rw [if_neg (by omega)]
          by_cases e2 : k = h
          · rw [if_pos e2]; exact ⟨t, ht, ⟨by omega, e⟩, hs⟩
          · rw [if_neg e2]; exact ⟨t, ht, hx, hs⟩
      · intro hh
        by_cases e : k = H
        · rw [if_pos e] at hh
          obtain ⟨t, ht, hx, hs⟩ := hh
          exact ⟨t, ht, by show (if inn t = b then H else hp t) = k; rw [if_pos hx, e], hs⟩
        · rw [if_neg e] at hh
          by_cases e2 : k = h
          · rw [if_pos e2] at hh
            obtain ⟨t, ht, hx, hs⟩ := hh
            exact ⟨t, ht, by show (if inn t = b then H else hp t) = k; rw [if_neg hx.2, e2, hx.1], hs⟩
          · rw [if_neg e2] at hh
            obtain ⟨t, ht, hx, hs⟩ := hh
            have hx : hp t = k := hx
            exact ⟨t, ht, by show (if inn t = b then H else hp t) = k; rw [if_neg (fun e3 => by have := hb t ht e3; omega), hx], hs⟩
    rw [key, key]
    split
    · exact c1
    · split
      · exact c2
      · exact c0
  all R hR p q hpn hqn hpq := by
    have a0 := hr.all R hR
    have c1 : ∀ t u, t < n -> u < n -> R t u -> (inn t = b ↔ inn u = b) := fun t u ht hu h => by rw [a0 t u ht hu h]
    have c2 : ∀ t u, t < n -> u < n -> R t u -> ((hp t = h /\ inn t ≠ b) ↔ (hp u = h /\ inn u ≠ b)) := fun t u ht hu hh => by
      have e := a0 t u ht hu hh
      rw [e, hr.sub t u ht hu e]
    exact (h2 p q hpn hqn).2 ⟨(h1 p q hpn hqn).2 ⟨a0 p q hpn hqn hpq, fun l => k1q hR c1 hpn hqn hpq l⟩, fun l => k1q hR c2 hpn hqn hpq l⟩
  rng p hpn := by
    have := hr.rng p hpn
    show (if inn p = b then H else hp p) < H + 1
    split <;> omega
theorem Run.done {inn hp : Nat -> Nat} {H : Nat} (hr : Run s n inn hp H) (h : ∀ p q, p < n -> q < n -> hp p = hp q -> inn p = inn q) : Big s n (fun p => (inn p : Int)) where
  bis p q hpn hqn hpq := by
    have e : inn p = inn q := Int.ofNat.inj hpq
    have key : ∀ p q, p < n -> q < n -> inn p = inn q -> ∀ l t, t < n -> stp s p l t -> ∃ u, u < n /\ stp s q l u /\ inn t = inn u := fun p q hpn hqn e l t ht hs => by
      obtain ⟨u, hu, hx, hs2⟩ := (hr.stab p q hpn hqn e l (hp t)).1 ⟨t, ht, rfl, hs⟩
      exact ⟨u, hu, hs2, (h u t hu ht hx).symm⟩
    refine ⟨fun l t ht hs => ?_, fun l u hu hs => ?_⟩
    · obtain ⟨u, hu, h1, h2⟩ := key p q hpn hqn e l t ht hs
      exact ⟨u, hu, h1, congrArg Int.ofNat h2⟩
    · obtain ⟨t, ht, h1, h2⟩ := key q p hqn hpn e.symm l u hu hs
      exact ⟨t, ht, h1, congrArg Int.ofNat h2.symm⟩
  all R hR p q hpn hqn hpq := by rw [hr.all R hR p q hpn hqn hpq]
def memN (n : Nat) (f : Nat -> Nat) (b : Nat) : List Nat := (List.range n).filter (fun e => decide (f e = b))
theorem j0p {f : Nat -> Nat} {b e : Nat} : e ∈ memN n f b ↔ e < n /\ f e = b := by simp [memN]
theorem p0i (f : Nat -> Nat) (b : Nat) : (memN n f b).Nodup := List.Pairwise.filter _ List.nodup_range
theorem memN_srt (f : Nat -> Nat) (b : Nat) : (memN n f b).Pairwise (· < ·) := List.Pairwise.filter _ List.pairwise_lt_range
theorem y0c (f : Nat -> Nat) (b : Nat) : (memN n f b).length <= n := by
 have := List.length_filter_le (fun e => decide (f e = b)) (List.range n)
 simpa [memN] using this
theorem p0e {l m : List Nat} (h : l.Nodup) (hs : ∀ x ∈ l, x ∈ m) : l.length <= m.length := by
 induction l generalizing m with
 | nil => simp
 | cons x l ih => (
 obtain ⟨hx, hl⟩ := List.nodup_cons.1 h
 have hm : x ∈ m := hs x (by simp)
 have h1 := ih (m := m.erase x) hl (fun y hy => (List.mem_erase_of_ne (fun e => hx (by rw [<- e]; exact hy))).2 (hs y (by simp [hy])))
 rw [List.length_erase_of_mem hm] at h1
 have := List.length_pos_of_mem hm
 simp only [List.length_cons]; omega)
theorem z1w {f : Nat -> Nat} {H : Nat} (h : ∀ k, k < H -> ∃ p, p < n /\ f p = k) : H <= n := by
 have h1 : ((List.range n).map f).length = n := by simp
 have := p0e (l := List.range H) (m := (List.range n).map f) List.nodup_range (fun k hk => by
   obtain ⟨p, hp, e⟩ := h k (by simpa using hk)
   exact List.mem_map.2 ⟨p, by simpa using hp, e⟩)
 simpa using this
theorem memN_new {inn hp : Nat -> Nat} {H b : Nat} (hr : ∀ p, p < n -> hp p < H) : memN n (fun p => if inn p = b then H else hp p) H = memN n inn b := by
 unfold memN
 apply List.filter_congr
 intro x hx
 have := hr x (by simpa using hx)
 show decide ((if inn x = b then H else hp x) = H) = decide (inn x = b)
 by_cases e : inn x = b
 · rw [if_pos e]; simp [e]
 · rw [if_neg e]; simp [e]; omega
theorem q2a {inn hp : Nat -> Nat} {H b h : Nat} (hh : h < H) (hb : ∀ p, p < n -> inn p = b -> hp p = h) : (memN n (fun p => if inn p = b then H else hp p) h).length + (memN n inn b).length = (memN n hp h).length := by
 have h1 := List.length_eq_countP_add_countP (l := memN n hp h) (fun e => decide (inn e = b))
 rw [h1, List.countP_eq_length_filter, List.countP_eq_length_filter]
 have e1 : (memN n hp h).filter (fun e => decide (inn e = b)) = memN n inn b := by (
 unfold memN
 rw [List.filter_filter]
 apply List.filter_congr
 intro x hx
 have := hb x (by simpa using hx)
 by_cases e : inn x = b
 · simp [e, this e]
 · simp [e])
 have e2 : (memN n hp h).filter (fun e => decide ¬(decide (inn e = b)) = true) = memN n (fun p => if inn p = b then H else hp p) h := by (
 unfold memN
 rw [List.filter_filter]
 apply List.filter_congr
 intro x hx
 by_cases e : inn x = b
 · simp [e]; omega
 · simp [e])
 rw [e1, e2]; omega
theorem q2b {inn hp : Nat -> Nat} {H b h k : Nat} (hk : k ≠ H) (hkh : k ≠ h) (hb : ∀ p, p < n -> inn p = b -> hp p = h) : memN n (fun p => if inn p = b then H else hp p) k = memN n hp k := by
 unfold memN
 apply List.filter_congr
 intro x hx
 have := hb x (by simpa using hx)
 by_cases e : inn x = b
 · have h2 : ¬ H = k := fun e => hk e.symm
   have h3 : ¬ h = k := fun e => hkh e.symm
   simp [e, this e, h2, h3]
 · simp [e]
def Gau (n : Nat) (hp ga : Nat -> Nat) : Prop := ∀ p, p < n -> 1 <= ga p /\ 2 ^ (ga p - 1) * (memN n hp (hp p)).length <= n
theorem Gau.begin : Gau n (fun _ => 0) (fun _ => 1) := fun p _ => ⟨Nat.le_refl _, by
  have := y0c (n := n) (fun _ => 0) 0
  simpa using this⟩
theorem Gau.take {inn hp ga : Nat -> Nat} {H b h : Nat} (hg : Gau n hp ga) (hr : ∀ p, p < n -> hp p < H) (hb : ∀ p, p < n -> inn p = b -> hp p = h) (hl : 2 * (memN n inn b).length <= (memN n hp h).length) :
    Gau n (fun p => if inn p = b then H else hp p) (fun p => if inn p = b then ga p + 1 else ga p) := by
 intro p hpn
 obtain ⟨h1, h2⟩ := hg p hpn
 by_cases e : inn p = b
 · (
 simp only [if_pos e]
 refine ⟨by omega, ?_⟩
 have hle : (memN n (fun p => if inn p = b then H else hp p) H).length <= (memN n inn b).length := p0e (p0i _ _) (fun x hx => by (
 obtain ⟨hx1, hx2⟩ := j0p.1 hx
 refine j0p.2 ⟨hx1, ?_⟩
 by_cases e2 : inn x = b
 · exact e2
 · have hx2 : (if inn x = b then H else hp x) = H := hx2
   rw [if_neg e2] at hx2
   have := hr x hx1; omega))
 have e3 : ga p + 1 - 1 = (ga p - 1) + 1 := by omega
 rw [e3, Nat.pow_succ]
 rw [hb p hpn e] at h2
 calc 2 ^ (ga p - 1) * 2 * (memN n (fun p => if inn p = b then H else hp p) H).length <= 2 ^ (ga p - 1) * 2 * (memN n inn b).length := Nat.mul_le_mul_left _ hle
   _ = 2 ^ (ga p - 1) * (2 * (memN n inn b).length) := by rw [Nat.mul_assoc]
   _ <= 2 ^ (ga p - 1) * (memN n hp h).length := Nat.mul_le_mul_left _ hl
   _ <= n := h2)
 · (
 simp only [if_neg e]
 refine ⟨h1, ?_⟩
 have hle : (memN n (fun p => if inn p = b then H else hp p) (hp p)).length <= (memN n hp (hp p)).length := p0e (p0i _ _) (fun x hx => by (
 obtain ⟨hx1, hx2⟩ := j0p.1 hx
 refine j0p.2 ⟨hx1, ?_⟩
 have hx2 : (if inn x = b then H else hp x) = hp p := hx2
 by_cases e2 : inn x = b
 · rw [if_pos e2] at hx2
   have := hr p hpn; omega
 · rw [if_neg e2] at hx2; exact hx2))
 exact Nat.le_trans (Nat.mul_le_mul_left _ hle) h2)
theorem Gau.le {hp ga : Nat -> Nat} (h : Gau n hp ga) {p : Nat} (hpn : p < n) : 1 <= ga p /\ 2 ^ (ga p - 1) <= n := by
 obtain ⟨h1, h2⟩ := h p hpn
 refine ⟨h1, Nat.le_trans ?_ h2⟩
 have : 0 < (memN n hp (hp p)).length := List.length_pos_of_mem (j0p.2 ⟨hpn, rfl⟩)
 exact Nat.le_mul_of_pos_right _ this
theorem half {inn hp : Nat -> Nat} {b c h : Nat} (hb : ∀ p, p < n -> inn p = b -> hp p = h) (hc : ∀ p, p < n -> inn p = c -> hp p = h) (hbc : b ≠ c) (hl : (memN n inn b).length <= (memN n inn c).length) : 2 * (memN n inn b).length <= (memN n hp h).length := by
 have h1 := p0e (l := memN n inn b ++ memN n inn c) (m := memN n hp h) (List.nodup_append.2 ⟨p0i _ _, p0i _ _, fun x hx y hy e => by
   have e1 := (j0p.1 hx).2
   have e2 := (j0p.1 hy).2
   subst e; omega⟩) (fun x hx => by
   rcases List.mem_append.1 hx with hx | hx
   · obtain ⟨a1, a2⟩ := j0p.1 hx
     exact j0p.2 ⟨a1, hb x a1 a2⟩
   · obtain ⟨a1, a2⟩ := j0p.1 hx
     exact j0p.2 ⟨a1, hc x a1 a2⟩)
 rw [List.length_append] at h1
 omega
end
end Pl
end Go.Proofs.YtjchdegapadepaaGreatDoor
namespace Go.Proofs.YtjchdegapadepaaGreatDoor
namespace Pl
section
variable {s : Lts} {n : Nat}
theorem SplitBy.congr {X Y : Nat -> Prop} {inn inn' : Nat -> Nat} (h : SplitBy s n X inn inn') (e : ∀ t, t < n -> (X t ↔ Y t)) : SplitBy s n Y inn inn' := fun p q hp hq => by
  rw [h p q hp hq]
  have key : ∀ l p, intoX s n l X p ↔ intoX s n l Y p := fun l p => by
    unfold intoX
    constructor
    · rintro ⟨t, ht, hx, hs⟩; exact ⟨t, ht, (e t ht).1 hx, hs⟩
    · rintro ⟨t, ht, hx, hs⟩; exact ⟨t, ht, (e t ht).2 hx, hs⟩
  constructor
  · rintro ⟨h1, h2⟩; exact ⟨h1, fun l => by rw [<- key, <- key]; exact h2 l⟩
  · rintro ⟨h1, h2⟩; exact ⟨h1, fun l => by rw [key, key]; exact h2 l⟩
theorem u0p {f g : Nat -> Nat} (h : ∀ p, p < n -> f p = g p) (b : Nat) : memN n f b = memN n g b := by
 unfold memN
 apply List.filter_congr
 intro x hx
 rw [h x (by simpa using hx)]
theorem Run.congr {inn hp hp' : Nat -> Nat} {H : Nat} (h : Run s n inn hp H) (e : ∀ p, p < n -> hp p = hp' p) : Run s n inn hp' H where
  sub p q hpn hqn he := by rw [<- e p hpn, <- e q hqn]; exact h.sub p q hpn hqn he
  stab p q hpn hqn he l k := by
    have key : ∀ p, intoX s n l (fun t => hp t = k) p ↔ intoX s n l (fun t => hp' t = k) p := fun p => by
      unfold intoX
      constructor
      · rintro ⟨t, ht, hx, hs⟩; exact ⟨t, ht, by show hp' t = k; rw [<- e t ht]; exact hx, hs⟩
      · rintro ⟨t, ht, hx, hs⟩; exact ⟨t, ht, by show hp t = k; rw [e t ht]; exact hx, hs⟩
    rw [<- key, <- key]
    exact h.stab p q hpn hqn he l k
  all := h.all
  rng p hpn := by rw [<- e p hpn]; exact h.rng p hpn
theorem Gau.congr {hp hp' ga ga' : Nat -> Nat} (h : Gau n hp ga) (e : ∀ p, p < n -> hp p = hp' p) (e2 : ∀ p, p < n -> ga p = ga' p) : Gau n hp' ga' := fun p hpn => by
  rw [<- e2 p hpn, <- e p hpn, <- u0p e]
  exact h p hpn
structure RunS (s : Lts) (n : Nat) (inn hp ga : Nat -> Nat) (sz : List Int) : Prop where
  run : Run s n inn hp sz.length
  gau : Gau n hp ga
  onto : ∀ k, k < sz.length -> ∃ p, p < n /\ hp p = k
  szs : ∀ k, k < sz.length -> sz[k]? = some ((memN n hp k).length : Int)
theorem Gau.small {hp ga : Nat -> Nat} (h : Gau n hp ga) {p : Nat} (hpn : p < n) : ga p <= n := by
 obtain ⟨h1, h2⟩ := h.le hpn
 have := Nat.lt_two_pow_self (n := ga p - 1)
 omega
theorem RunS.begin {inn : Nat -> Nat} (hn : 0 < n) (h : SplitBy s n (· ∈ List.range n) (fun _ => 0) inn) : RunS s n inn (fun _ => 0) (fun p => if p ∈ List.range n then 0 + 1 else 0) [(n : Int)] where
  run := Run.begin (inn := fun _ => 0) (fun _ _ _ _ => rfl) (h.congr (fun t ht => by simpa using ht))
  gau := Gau.begin.congr (fun _ _ => rfl) (fun p hp => by simp [hp])
  onto k hk := ⟨0, hn, by simp at hk; omega⟩
  szs k hk := by
    have : k = 0 := by simp at hk; omega
    subst this
    have e : memN n (fun _ => 0) 0 = List.range n := by
      unfold memN
      exact List.filter_eq_self.2 (fun a _ => by simp)
    rw [e]; simp
theorem RunS.takeH {inn hp ga inn1 inn2 : Nat -> Nat} {sz : List Int} {b h : Nat} (hr : RunS s n inn hp ga sz) (hb : ∀ p, p < n -> inn p = b -> hp p = h)
    (hhalf : 2 * (memN n inn b).length <= (memN n hp h).length) (hb0 : 0 < (memN n inn b).length) (h1 : SplitBy s n (· ∈ memN n inn b) inn inn1) (h2 : SplitBy s n (· ∈ memN n (fun p => if p ∈ memN n inn b then sz.length else hp p) h) inn1 inn2) {sh : Int} (hsh : sz[h]? = some sh) :
    RunS s n inn2 (fun p => if p ∈ memN n inn b then sz.length else hp p) (fun p => if p ∈ memN n inn b then ga p + 1 else ga p) ((sz ++ [((memN n inn b).length : Int)]).set h (sh - (memN n inn b).length)) := by
 have hh : h < sz.length := (List.getElem?_eq_some_iff.1 hsh).1
 have e : ∀ p, p < n -> (if inn p = b then sz.length else hp p) = (if p ∈ memN n inn b then sz.length else hp p) := fun p hp => by (
 by_cases hi : inn p = b
 · rw [if_pos hi, if_pos (j0p.2 ⟨hp, hi⟩)]
 · rw [if_neg hi, if_neg (fun hm => hi (j0p.1 hm).2)])
 have e2 : ∀ p, p < n -> (if inn p = b then ga p + 1 else ga p) = (if p ∈ memN n inn b then ga p + 1 else ga p) := fun p hp => by (
 by_cases hi : inn p = b
 · rw [if_pos hi, if_pos (j0p.2 ⟨hp, hi⟩)]
 · rw [if_neg hi, if_neg (fun hm => hi (j0p.1 hm).2)])
 have hlen : ((sz ++ [((memN n inn b).length : Int)]).set h (sh - (memN n inn b).length)).length = sz.length + 1 := by simp
 have hs1 : SplitBy s n (fun t => inn t = b) inn inn1 := h1.congr (fun t ht => by rw [j0p]; simp [ht])
 have hs2 : SplitBy s n (fun t => hp t = h /\ inn t ≠ b) inn1 inn2 := h2.congr (fun t ht => by (
 rw [j0p, <- e t ht]
 by_cases hi : inn t = b
 · rw [if_pos hi]; simp [hi]; omega
 · rw [if_neg hi]; simp [hi, ht]))
 have hrest := q2a (n := n) (inn := inn) (hp := hp) (H := sz.length) (b := b) (h := h) hh hb
 refine ⟨by rw [hlen]; exact (hr.run.take hb hs1 hs2).congr e, (hr.gau.take hr.run.rng hb hhalf).congr e e2, fun k hk => ?_, fun k hk => ?_⟩
 · (
 rw [hlen] at hk
 by_cases hkn : k = sz.length
 · obtain ⟨p, hp⟩ : ∃ p, p ∈ memN n inn b := ⟨_, List.getElem_mem hb0⟩
   exact ⟨p, (j0p.1 hp).1, by rw [if_pos hp, hkn]⟩
 · (
 by_cases hkh : k = h
 · have hpos : 0 < (memN n (fun p => if inn p = b then sz.length else hp p) h).length := by omega
   obtain ⟨p, hp⟩ : ∃ p, p ∈ memN n (fun p => if inn p = b then sz.length else hp p) h := ⟨_, List.getElem_mem hpos⟩
   obtain ⟨hp1, hp2⟩ := j0p.1 hp
   exact ⟨p, hp1, by rw [<- e p hp1, hkh]; exact hp2⟩
 · obtain ⟨p, hp1, hp2⟩ := hr.onto k (by omega)
   refine ⟨p, hp1, ?_⟩
   rw [<- e p hp1, if_neg (fun hi => hkh (by rw [<- hp2]; exact hb p hp1 hi)), hp2]))
 · (
 rw [hlen] at hk
 rw [<- u0p e]
 rw [List.getElem?_set]
 by_cases hkh : h = k
 · (
 subst hkh
 rw [if_pos rfl, if_pos (by simp; omega)]
 have hsz := hr.szs h hh
 rw [hsh] at hsz
 simp only [Option.some.injEq] at hsz ⊢
 omega)
 · (
 rw [if_neg hkh]
 by_cases hkn : k = sz.length
 · subst hkn
   rw [List.getElem?_append_right (Nat.le_refl _), memN_new hr.run.rng]
   simp
 · rw [List.getElem?_append_left (by omega), hr.szs k (by omega), q2b hkn (fun e => hkh e.symm) hb]))
theorem RunS.take {inn hp ga inn1 inn2 : Nat -> Nat} {sz : List Int} {b c h : Nat} (hr : RunS s n inn hp ga sz) (hb : ∀ p, p < n -> inn p = b -> hp p = h) (hc : ∀ p, p < n -> inn p = c -> hp p = h) (hbc : b ≠ c)
    (hl : (memN n inn b).length <= (memN n inn c).length) (hb0 : 0 < (memN n inn b).length) (h1 : SplitBy s n (· ∈ memN n inn b) inn inn1) (h2 : SplitBy s n (· ∈ memN n (fun p => if p ∈ memN n inn b then sz.length else hp p) h) inn1 inn2) {sh : Int} (hsh : sz[h]? = some sh) :
    RunS s n inn2 (fun p => if p ∈ memN n inn b then sz.length else hp p) (fun p => if p ∈ memN n inn b then ga p + 1 else ga p) ((sz ++ [((memN n inn b).length : Int)]).set h (sh - (memN n inn b).length)) :=
  hr.takeH hb (half hb hc hbc hl) hb0 h1 h2 hsh
theorem RunS.done {inn hp ga : Nat -> Nat} {sz : List Int} (hr : RunS s n inn hp ga sz) (h : ∀ p q, p < n -> q < n -> hp p = hp q -> inn p = inn q) : Big s n (fun p => (inn p : Int)) := hr.run.done h
theorem RunS.few {inn hp ga : Nat -> Nat} {sz : List Int} (hr : RunS s n inn hp ga sz) : sz.length <= n := z1w hr.onto
end
end Pl
end Go.Proofs.YtjchdegapadepaaGreatDoor
